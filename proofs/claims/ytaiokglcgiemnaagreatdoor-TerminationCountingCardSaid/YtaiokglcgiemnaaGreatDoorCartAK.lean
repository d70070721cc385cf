/- Part of the proof of laws of relyguardlaw36. No condition. -/
import Derived.Test.YtaiokglcgiemnaaGreatDoorCartAJ
import Derived.Stop.Joined
import Derived.ProofKit
import Derived.LaidMore
import Derived.Test.YtaiokglcgiemnaaGreatDoorCartAI
import Derived.Test.YtaiokglcgiemnaaGreatDoorCartAH
set_option linter.unusedSimpArgs false
set_option linter.unusedVariables false
section
namespace Rg
open Go
section
variable {Γ:Nat->Option F} {G:Nat->List T}
variable (G) in
def zAg (sl:Nat->Slot):List V->List (Nat×Nat×Opd)->Option (List V)
 | cs,[]=>some cs
 | cs,(off,k,x)::r=>ob (zxo G sl x) (fun v=>ob v.cells (fun new=>if new.length=k then ob (wr cs off new) (fun cs'=>zAg sl cs' r) ⟨0⟩else none) ⟨0⟩) ⟨0⟩
@[go_sem ↓]theorem zoZ (sl:Nat->Slot) (cs:List V):zAg G sl cs []=some cs:=rfl
@[go_sem ↓]theorem zir (sl:Nat->Slot) (cs:List V) (off k:Nat) (x:Opd) (r:List (Nat×Nat×Opd)):
 zAg G sl cs ((off,k,x)::r)=ob (zxo G sl x) (fun v=>ob v.cells (fun new=>if new.length=k then ob (wr cs off new) (fun cs'=>zAg G sl cs' r) ⟨0⟩else none) ⟨0⟩) ⟨0⟩:=rfl
theorem zhv (sl:Nat->Slot) (u:Nat->Bool) (h:Nat->Option O) (n b:Nat): ∀(r:List (Nat×Nat×Opd)) (cs:List V),zaX G cs (M.st ⟨sl,u,h,n,b⟩) r=zAg G sl cs r
 | [],cs=>rfl
 | (off,k,x)::r,cs=>by
   rw[zaX,zir,zaB];simp only[ob,zC]
   congr 1;funext v;congr 1;funext new
   split
   ·congr 1;funext cs';exact zhv sl u h n b r cs'
   ·rfl
variable (G) in
def zAf (sl:Nat->Slot) (sz:Nat):List (List V)->List (Nat×Opd)->Option (List (List V))
 | rs,[]=>some rs
 | rs,(i,x)::r=>ob (zxo G sl x) (fun v=>ob v.cells (fun new=>if new.length=sz/\i<rs.length then zAf sl sz (rs.set i new) r else none) ⟨0⟩) ⟨0⟩
@[go_sem ↓]theorem zoY (sl:Nat->Slot) (sz:Nat) (rs:List (List V)):zAf G sl sz rs []=some rs:=rfl
@[go_sem ↓]theorem ziq (sl:Nat->Slot) (sz:Nat) (rs:List (List V)) (i:Nat) (x:Opd) (r:List (Nat×Opd)):
 zAf G sl sz rs ((i,x)::r)=ob (zxo G sl x) (fun v=>ob v.cells (fun new=>if new.length=sz/\i<rs.length then zAf G sl sz (rs.set i new) r else none) ⟨0⟩) ⟨0⟩:=rfl
theorem zhu (sl:Nat->Slot) (u:Nat->Bool) (h:Nat->Option O) (n b sz:Nat): ∀(r:List (Nat×Opd)) (rs:List (List V)),zbc G rs sz (M.st ⟨sl,u,h,n,b⟩) r=zAf G sl sz rs r
 | [],rs=>rfl
 | (i,x)::r,rs=>by
   rw[zbc,ziq,zaB];simp only[ob,zC]
   congr 1;funext v;congr 1;funext new
   split
   ·exact zhu sl u h n b sz r _
   ·rfl
variable (G) in
def zBE (sl:Nat->Slot) (d:Nat):Option Opd->Option Int
 | none=>some d
 | some x=>ob (zxo G sl x) zAd ⟨0⟩
@[go_sem ↓]theorem ztm (sl:Nat->Slot) (d:Nat):zBE G sl d none=some (d:Int):=rfl
@[go_sem ↓]theorem ztl (sl:Nat->Slot) (d:Nat) (x:Opd):zBE G sl d (some x)=ob (zxo G sl x) zAd ⟨0⟩:=rfl
theorem zlF (sl:Nat->Slot) (u:Nat->Bool) (h:Nat->Option O) (n b d:Nat) (x:Option Opd):zb6 G (M.st ⟨sl,u,h,n,b⟩) d x=zBE G sl d x:=by
 cases x with
 | none=>rfl
 | some x=>simp only[zb6,zbw,zBE,ob]
def zfB (h:Nat->Option O) (sz:Nat) (lo hi:Int):V->Option V
 | .ms k i _=>match h k with
   | some (.rows sz' rs _)=>if sz'=sz/\0<=lo/\lo<=hi/\(i:Int)+hi<=rs.length then some (.ms k (i+lo.toNat) (hi-lo).toNat)else none
   | _=>none
 | _=>none
def zkv (h:Nat->Option O) (sz n:Nat) (lo hi:Int) (v:V):Option V:=
 if 0<=lo/\lo<=hi/\hi<=n then
  match v with
  | .t .nils=>some (.t .nils)
  | .t (.sl es)=>if es.all (·.length=sz)then some (.t (.sl ((es.drop lo.toNat).take (hi-lo).toNat)))else none
  | .ms k i _=>match h k with
    | some (.rows sz' _ _)=>if sz'=sz then some (.ms k (i+lo.toNat) (hi-lo).toNat)else none
    | _=>none
  | _=>none
 else zfB h sz lo hi v
def ztG:V->Option ByteArray
 | .t (.str b)=>some b
 | _=>none
def zkw:V->Option V
 | .t .nils=>some (.t .nils)
 | .t (.sl [])=>some (.t (.slc []))
 | .t (.sl (_::_))=>some (.t .nils)
 | .ms _ _ _=>some (.t .nils)
 | _=>none
attribute [go_sem] zkv ztG zkw zA3
variable (d:Bool) (p:Nat) (l:List ROp) (Q:M->Prop) (sl:Nat->Slot) (u:Nat->Bool) (h:Nat->Option O) (n b:Nat)
@[go_sem ↓]theorem zrz (t:Nat) (z:List V) (ps:List (Nat×Nat×Opd)) (w:W4 _ _ _ _):
 wO Γ G d p (⟨none,some t,.build z ps⟩::l) Q ⟨sl,u,h,n,b⟩ w=zyF (u t) (ob (zAg G sl z ps) (fun cs=>some (.agg cs)) ⟨0⟩) (fun v=>wO Γ G d (p+1) l Q ⟨updC sl t ⟨v,none,none⟩,u,h,n,b⟩ ⟨0⟩) ⟨0⟩:=by
 refine za1 rfl ?_;simp only[zw4,zhv,ob];cases zAg G sl z ps<;>rfl
@[go_sem ↓]theorem zrm (t:Nat) (sz:Nat) (x:Opd) (lo hi:Option Opd) (w:W4 _ _ _ _):
 wO Γ G d p (⟨none,some t,.slice sz x lo hi none⟩::l) Q ⟨sl,u,h,n,b⟩ w=zyF (u t) (ob (zxo G sl x) (fun v=>ob (zBo h v) (fun k=>ob (zBE G sl k hi) (fun AN=>ob (zBE G sl 0 lo) (fun lo'=>zkv h sz k lo' AN v) ⟨0⟩) ⟨0⟩) ⟨0⟩) ⟨0⟩) (fun v=>wO Γ G d (p+1) l Q ⟨updC sl t ⟨v,none,none⟩,u,h,n,b⟩ ⟨0⟩) ⟨0⟩:=by
 refine za1 rfl ?_;simp only[zw4,zaB,ob,zgp,zlF]
 cases zxo G sl x with
 | none=>rfl
 | some v=>
   simp only[zC,zD]
   cases zBo h v with
   | none=>rfl
   | some k=>
     simp only[zD]
     cases zBE G sl k hi with
     | none=>rfl
     | some AN=>
       simp only[zD]
       cases zBE G sl 0 lo with
       | none=>rfl
       | some lo'=>
         simp only[zD,zkv];split
         ·cases v with
          | t x=>cases x with
            | sl es=>simp only;split<;>rfl
            | _=>rfl
          | ms q i j=>
            simp only[M.st]
            cases h q with
            | none=>rfl
            | some o=>cases o with
              | rows s rs z=>simp only;split<;>rfl
              | _=>rfl
          | _=>rfl
         ·cases v with
          | ms q i j=>
            simp only[M.st,zfB]
            cases h q with
            | none=>rfl
            | some o=>cases o with
              | rows s rs z=>simp only;split<;>rfl
              | _=>rfl
          | _=>rfl
@[go_sem ↓]theorem zqg (t:Nat) (sz:Nat) (x:Opd) (lo:Option Opd) (hi mx:Opd) (w:W4 _ _ _ _):
 wO Γ G d p (⟨none,some t,.slice sz x lo (some hi) (some mx)⟩::l) Q ⟨sl,u,h,n,b⟩ w=zyF (u t) (ob (zxo G sl x) (fun v=>ob (zBo h v) (fun k=>ob (zBE G sl k (some hi)) (fun AN=>ob (zBE G sl 0 lo) (fun lo'=>ob (zBE G sl 0 (some mx)) (fun m=>if lo'=0/\AN=0/\m=0 then zkw v else if 0<=lo'/\lo'<=AN/\AN<=m/\m<=k then some (zA3 sz v lo' AN m k)else none) ⟨0⟩) ⟨0⟩) ⟨0⟩) ⟨0⟩) ⟨0⟩) (fun v=>wO Γ G d (p+1) l Q ⟨updC sl t ⟨v,none,none⟩,u,h,n,b⟩ ⟨0⟩) ⟨0⟩:=by
 refine za1 rfl ?_;simp only[zw4,zaB,ob,zgp,zlF,zbw]
 cases zxo G sl x with
 | none=>rfl
 | some v=>
   simp only[zC,zD]
   cases zBo h v with
   | none=>rfl
   | some k=>
     simp only[zD]
     cases zBE G sl k (some hi)with
     | none=>rfl
     | some AN=>
       simp only[zD]
       cases zBE G sl 0 lo with
       | none=>rfl
       | some lo'=>
         simp only[zD,zBE,ob]
         cases(zxo G sl mx).bind zAd with
         | none=>rfl
         | some m=>
           simp only[zD,Option.isSome_some,and_true];split
           ·cases v with
            | t x=>cases x with
              | sl es=>cases es<;>rfl
              | _=>rfl
            | _=>rfl
           ·split<;>rfl
attribute [go_sem] zBN zy0
@[go_sem ↓]theorem zsQ (t:Nat) (f:Nat) (x y:List Opd) (w:W4 _ _ _ _):
 wO Γ G d p (⟨none,some t,.mkfn f x y⟩::l) Q ⟨sl,u,h,n,b⟩ w=zyF (u t) (ob (zyI G sl x) (fun a=>ob (zyI G sl y) (fun c=>zBN f a c) ⟨0⟩) ⟨0⟩) (fun v=>wO Γ G d (p+1) l Q ⟨updC sl t ⟨v,none,none⟩,u,h,n,b⟩ ⟨0⟩) ⟨0⟩:=by
 refine za1 rfl ?_;simp only[zw4,zds,ob]
 cases zyI G sl x with
 | none=>rfl
 | some a=>
   simp only[zC,zD]
   cases zyI G sl y with
   | none=>rfl
   | some c=>simp only[zD];(cases zBN f a c<;>rfl)
@[go_sem ↓]theorem zqu (t:Nat) (cs:List V) (w:W4 _ _ _ _):
 wO Γ G d p (⟨none,some t,.allocH cs⟩::l) Q ⟨sl,u,h,n,b⟩ w=zfo (u t) (some (V.mp (b+p) 0 0,[(b+p,O.rows cs.length [cs] false)])) (fun v hp=>wO Γ G d (p+1) l Q ⟨updC sl t ⟨v,none,none⟩,u,Av h hp,n,b⟩ ⟨0⟩) ⟨0⟩:=by
 refine zgO rfl ?_;rfl
@[go_sem ↓]theorem zs4 (t:Nat) (k:Nat) (x:Opd) (w:W4 _ _ _ _):
 wO Γ G d p (⟨none,some t,.boxH k x⟩::l) Q ⟨sl,u,h,n,b⟩ w=zfo (u t) (ob (zxo G sl x) (fun v=>ob v.cells (fun cs=>if cs.length=k then some (V.mp (b+p) 0 0,[(b+p,O.rows k [cs] false)])else none) ⟨0⟩) ⟨0⟩) (fun v hp=>wO Γ G d (p+1) l Q ⟨updC sl t ⟨v,none,none⟩,u,Av h hp,n,b⟩ ⟨0⟩) ⟨0⟩:=by
 refine zgO rfl ?_;simp only[zw4,zaB,ob]
 cases zxo G sl x with
 | none=>rfl
 | some v=>
   simp only[zC,zD]
   cases v.cells with
   | none=>rfl
   | some cs=>simp only[zD];split<;>rfl
@[go_sem ↓]theorem zqq (t:Nat) (sz len:Nat) (z:List V) (ps:List (Nat×Opd)) (w:W4 _ _ _ _):
 wO Γ G d p (⟨none,some t,.bslice sz len z ps⟩::l) Q ⟨sl,u,h,n,b⟩ w=zfo (u t) (ob (zAf G sl sz (List.replicate len z) ps) (fun rs=>some (V.ms (b+p) 0 len,[(b+p,O.rows sz rs false)])) ⟨0⟩) (fun v hp=>wO Γ G d (p+1) l Q ⟨updC sl t ⟨v,none,none⟩,u,Av h hp,n,b⟩ ⟨0⟩) ⟨0⟩:=by
 refine zgO rfl ?_;simp only[zw4,zhu,ob];cases zAf G sl sz (List.replicate len z) ps<;>rfl
def zkq (h:Nat->Option O) (k:Nat) (new:List V):V->Option (V×List (Nat×O))
 | .mp q i off=>match h q with
   | some (.rows sz rs false)=>(rs[i]?).bind fun row=>if new.length=k then(wr row off new).bind fun row'=>some (V.undef,[(q,O.rows sz (rs.set i row') false)])else none
   | _=>none
 | _=>none
def zyh (h:Nat->Option O) (q:Nat) (sz bytes:Nat) (u:V) (a b:List (List V)):Option (V×List (Nat×O)):=
 if(a.length+b.length<=2^32/\bytes<=2^12)/\b.all (·.length=sz)/\a.all (·.length=sz)then
  if b.isEmpty then some (u,[])
  else match u with
   | .t .nils=>some (.ms q 0 b.length,[(q,.rows sz b false)])
   | .t (.slc _)=>((a++b).mapM zy0).bind fun ts=>some (.t (.sl ts),[])
   | .ms k i _=>match h k with
     | some (.rows sz' rs false)=>if sz'=sz/\i=0 then some (.ms q 0 (a.length+b.length),[(k,.dead),(q,.rows sz (zxY a b rs) false)])else none
     | _=>none
   | _=>none
 else none
@[go_sem]theorem zer {α:Type} (a b:List α):zxY a b a=a++b:=if_pos (Nat.le_add_right _ _)
def zoJ (h:Nat->Option O) (sz:Nat) (b:List (List V)):V->Option (V×List (Nat×O))
 | .t .nils=>some (.t (.int .i64 0),[])
 | .ms k i len=>match h k with
   | some (.rows sz' rs false)=>if sz'=sz/\b.all (·.length=sz)then(wr rs i (b.take len)).bind fun rs'=>some (.t (.int .i64 (min b.length len:Nat)),[(k,.rows sz rs' false)])else none
   | _=>none
 | _=>none
def zDE (h:Nat->Option O):V->Option (List (T×V))
 | .t .nilm=>some []
 | .mm j=>match h j with
   | some (.map es)=>some es
   | _=>none
 | _=>none
def zCe (h:Nat->Option O) (key:T) (x:V):V->Option (V×List (Nat×O))
 | .mm j=>match h j with
   | some (.map es)=>(zx6 key x es).bind fun es'=>if x.one then some (V.undef,[(j,.map es')])else none
   | _=>none
 | _=>none
def zBF (h:Nat->Option O) (sz:Nat) (zero:List V):V->Option (V×List (Nat×O))
 | .t .nils=>some (.tup [],[])
 | .ms k i len=>match h k with
   | some (.rows sz' rs false)=>if sz'=sz/\zero.length=sz then(wr rs i (List.replicate len zero)).bind fun rs'=>some (.tup [],[(k,.rows sz rs' false)])else none
   | _=>none
 | _=>none
attribute [go_sem] zkq zoJ zDE zCe zBF
theorem zCI (sl:Nat->Slot) (u:Nat->Bool) (h:Nat->Option O) (n b p sz:Nat) (z:List V) (x:Opd):
 zw4 G p (M.st ⟨sl,u,h,n,b⟩) (.clear sz z x)=(ob (zxo G sl x) (zBF h sz z) ⟨0⟩).map fun v=>({ val:=v.1,hp:=v.2 }:Eff):=by
 simp only[zw4,zaB,ob]
 cases zxo G sl x with
 | none=>rfl
 | some v=>cases v with
   | t x=>cases x<;>rfl
   | ms k i len=>
     simp only[zC,zD,zBF,M.st]
     cases h k with
     | none=>rfl
     | some o=>cases o with
       | rows s rs z=>cases z with
         | false=>
           simp only;split
           ·cases wr rs i (List.replicate len _)<;>rfl
           ·rfl
         | true=>rfl
       | _=>rfl
   | _=>rfl
@[go_sem ↓]theorem zqp (sz:Nat) (z:List V) (x:Opd) (w:W4 _ _ _ _):
 wO Γ G d p (⟨none,none,.clear sz z x⟩::l) Q ⟨sl,u,h,n,b⟩ w=zfo false (ob (zxo G sl x) (zBF h sz z) ⟨0⟩) (fun _ hp=>wO Γ G d (p+1) l Q ⟨sl,u,Av h hp,n,b⟩ ⟨0⟩) ⟨0⟩:=zkj rfl (zCI ..)
@[go_sem ↓]theorem zrl (k:Nat) (a x:Opd) (w:W4 _ _ _ _):
 wO Γ G d p (⟨none,none,.store k a x⟩::l) Q ⟨sl,u,h,n,b⟩ w=zfo false (ob (zxo G sl a) (fun q=>ob (zxo G sl x) (fun v=>ob v.cells (fun new=>zkq h k new q) ⟨0⟩) ⟨0⟩) ⟨0⟩) (fun _ hp=>wO Γ G d (p+1) l Q ⟨sl,u,Av h hp,n,b⟩ ⟨0⟩) ⟨0⟩:=by
 refine zkj rfl ?_;simp only[zw4,zaB,ob]
 cases zxo G sl a with
 | none=>rfl
 | some q=>
   simp only[zC,zD]
   cases hx:zxo G sl x with
   | none=>
     cases q with
     | mp j i off=>
       simp only[M.st,Option.bind_none]
       cases h j with
       | none=>rfl
       | some o=>cases o with
         | rows sz rs z=>cases z with
           | false=>simp only;cases rs[i]? <;>rfl
           | true=>rfl
         | _=>rfl
     | _=>rfl
   | some v=>
     simp only[zD]
     cases hc:v.cells with
     | none=>
       cases q with
       | mp j i off=>
         simp only[M.st,Option.bind_none]
         cases h j with
         | none=>rfl
         | some o=>cases o with
           | rows sz rs z=>cases z with
             | false=>simp only;cases rs[i]? <;>rfl
             | true=>rfl
           | _=>rfl
       | _=>rfl
     | some new=>
       cases q with
       | mp j i off=>
         simp only[M.st,zD,zkq]
         cases h j with
         | none=>rfl
         | some o=>cases o with
           | rows sz rs z=>cases z with
             | false=>
               simp only
               cases rs[i]? with
               | none=>rfl
               | some row=>
                 simp only[zD];split
                 ·cases wr row off new<;>rfl
                 ·rfl
             | true=>rfl
           | _=>rfl
       | _=>rfl
def zoP (sz bytes:Nat) (z:List V) (k:Nat) (v:V) (m:Int):Option (V×List (Nat×O)):=match v with
 | .t .nils=>if 1<=m/\m<=2^32/\bytes<=2^12/\z.length=sz then some (V.ms k 0 m.toNat,[(k,O.rows sz (List.replicate m.toNat z) false)])else none
 | _=>none
@[go_sem]theorem zsC (sz bytes:Nat) (z:List V) (k:Nat) (m:Int):zoP sz bytes z k (.t .nils) m=if 1<=m/\m<=2^32/\bytes<=2^12/\z.length=sz then some (V.ms k 0 m.toNat,[(k,O.rows sz (List.replicate m.toNat z) false)])else none:=rfl
@[go_sem ↓]theorem zs5 (t:Nat) (sz bytes:Nat) (z:List V) (x y:Opd) (w:W4 _ _ _ _):
 wO Γ G d p (⟨none,some t,.appz sz bytes z x y⟩::l) Q ⟨sl,u,h,n,b⟩ w=zfo (u t) (ob (zxo G sl y) (fun v'=>ob (zAd v') (fun m=>ob (zxo G sl x) (fun v=>zoP sz bytes z (b+p) v m) ⟨0⟩) ⟨0⟩) ⟨0⟩) (fun v hp=>wO Γ G d (p+1) l Q ⟨updC sl t ⟨v,none,none⟩,u,Av h hp,n,b⟩ ⟨0⟩) ⟨0⟩:=by
 refine zgO rfl ?_;simp only[zw4,zbw,zaB,ob]
 cases zxo G sl y with
 | none=>rfl
 | some v'=>
   simp only[zC,zD]
   cases zAd v' with
   | none=>rfl
   | some m=>
     simp only[zD]
     cases zxo G sl x with
     | none=>rfl
     | some v=>cases v with
       | t x=>cases x<;>first | rfl | (simp only[zD,zoP];split<;>rfl)
       | _=>rfl
@[go_sem ↓]theorem zo7 (t:Nat) (sz bytes:Nat) (z:List V) (x y:Opd) (w:W4 _ _ _ _):
 wO Γ G d p (⟨none,some t,.mkslice sz bytes z x y⟩::l) Q ⟨sl,u,h,n,b⟩ w=zfo (u t) (ob (zxo G sl x) (fun v=>ob (zAd v) (fun k=>ob (zxo G sl y) (fun v'=>ob (zAd v') (fun m=>if 0<=k/\k<=m/\m<=2^32/\bytes<=2^12/\z.length=sz then some (V.ms (b+p) 0 k.toNat,[(b+p,O.rows sz (List.replicate k.toNat z) false)])else none) ⟨0⟩) ⟨0⟩) ⟨0⟩) ⟨0⟩) (fun v hp=>wO Γ G d (p+1) l Q ⟨updC sl t ⟨v,none,none⟩,u,Av h hp,n,b⟩ ⟨0⟩) ⟨0⟩:=by
 refine zgO rfl ?_;simp only[zw4,zbw,ob]
 cases zxo G sl x with
 | none=>rfl
 | some v=>
   simp only[zC,zD]
   cases zAd v with
   | none=>rfl
   | some k=>
     simp only[zD]
     cases zxo G sl y with
     | none=>rfl
     | some v'=>
       simp only[zD]
       cases zAd v' with
       | none=>rfl
       | some m=>simp only[zD];split<;>rfl
@[go_sem ↓]theorem zqs (t:Nat) (sz bytes:Nat) (x y:Opd) (w:W4 _ _ _ _):
 wO Γ G d p (⟨none,some t,.append sz bytes x y⟩::l) Q ⟨sl,u,h,n,b⟩ w=zfo (u t) (ob (zxo G sl x) (fun v=>ob (zxo G sl y) (fun v'=>ob (rowsS h v) (fun a=>ob (rowsS h v') (fun c=>zyh h (b+p) sz bytes v a c) ⟨0⟩) ⟨0⟩) ⟨0⟩) ⟨0⟩) (fun v hp=>wO Γ G d (p+1) l Q ⟨updC sl t ⟨v,none,none⟩,u,Av h hp,n,b⟩ ⟨0⟩) ⟨0⟩:=by
 refine zgO rfl ?_;simp only[zw4,zaB,ob,zg1]
 cases zxo G sl x with
 | none=>rfl
 | some v=>
   simp only[zC,zD]
   cases zxo G sl y with
   | none=>rfl
   | some v'=>
     simp only[zD]
     cases rowsS h v with
     | none=>rfl
     | some a=>
       simp only[zD]
       cases rowsS h v' with
       | none=>rfl
       | some c=>
         simp only[zD,zyh];split
         ·split
          ·rfl
          ·cases v with
           | t z=>cases z<;>first | rfl | (cases List.mapM zy0 (a++c)<;>rfl)
           | ms k i j=>
             simp only[M.st]
             cases h k with
             | none=>rfl
             | some o=>cases o with
               | rows s rs z=>cases z with
                 | false=>simp only;split<;>rfl
                 | true=>rfl
               | _=>rfl
           | _=>rfl
         ·rfl
def zpB (h:Nat->Option O) (f:Nat):V->Option (V×List (Nat×O))
 | .mp k i off=>match h k with
   | some (.rows sz [row] _)=>if i=0/\off=0 then(zy0 row).bind fun ts=>some (.t (.fn f [] [.ip ts]),[(k,.rows sz [row] true)])else none
   | _=>none
 | _=>none
attribute [go_sem] zpB
@[go_sem ↓]theorem zsY (t:Nat) (sz:Nat) (x y:Opd) (w:W4 _ _ _ _):
 wO Γ G d p (⟨none,some t,.copy sz x y⟩::l) Q ⟨sl,u,h,n,b⟩ w=zfo (u t) (ob (zxo G sl x) (fun v=>ob (zxo G sl y) (fun v'=>ob (rowsS h v') (fun c=>zoJ h sz c v) ⟨0⟩) ⟨0⟩) ⟨0⟩) (fun v hp=>wO Γ G d (p+1) l Q ⟨updC sl t ⟨v,none,none⟩,u,Av h hp,n,b⟩ ⟨0⟩) ⟨0⟩:=by
 refine zgO rfl ?_;simp only[zw4,zaB,ob,zg1]
 cases zxo G sl x with
 | none=>rfl
 | some v=>
   simp only[zC,zD]
   cases zxo G sl y with
   | none=>rfl
   | some v'=>
     simp only[zD]
     cases rowsS h v' with
     | none=>rfl
     | some c=>
       simp only[zD,zoJ]
       cases v with
       | t z=>cases z<;>rfl
       | ms k i j=>
         simp only[M.st]
         cases h k with
         | none=>rfl
         | some o=>cases o with
           | rows s rs z=>cases z with
             | false=>
               simp only;split
               ·cases wr rs i (c.take j)<;>rfl
               ·rfl
             | true=>rfl
           | _=>rfl
       | _=>rfl
@[go_sem ↓]theorem zrq (t:Nat)  (w:W4 _ _ _ _):
 wO Γ G d p (⟨none,some t,.mkmap⟩::l) Q ⟨sl,u,h,n,b⟩ w=zfo (u t) (some (V.mm (b+p),[(b+p,O.map [])])) (fun v hp=>wO Γ G d (p+1) l Q ⟨updC sl t ⟨v,none,none⟩,u,Av h hp,n,b⟩ ⟨0⟩) ⟨0⟩:=by
 refine zgO rfl ?_;rfl
@[go_sem ↓]theorem zql (t:Nat) (kd:Nat) (z:V) (ok:Bool) (x y:Opd) (w:W4 _ _ _ _):
 wO Γ G d p (⟨none,some t,.lookup kd z ok x y⟩::l) Q ⟨sl,u,h,n,b⟩ w=zyF (u t) (ob (zxo G sl y) (fun k=>ob (zAs kd k) (fun key=>ob (zxo G sl x) (fun v=>ob (zDE h v) (fun es=>ob (zxT key es) (fun r=>some (if ok then V.tup [r.getD z,.t (.bool r.isSome)]else r.getD z)) ⟨0⟩) ⟨0⟩) ⟨0⟩) ⟨0⟩) ⟨0⟩) (fun v=>wO Γ G d (p+1) l Q ⟨updC sl t ⟨v,none,none⟩,u,h,n,b⟩ ⟨0⟩) ⟨0⟩:=by
 refine za1 rfl ?_;simp only[zw4,zaB,ob]
 cases zxo G sl y with
 | none=>rfl
 | some k=>
   simp only[zC,zD]
   cases zAs kd k with
   | none=>rfl
   | some key=>
     simp only[zD]
     cases zxo G sl x with
     | none=>rfl
     | some v=>
       simp only[zD]
       cases v with
       | mm j=>
         simp only[zDE,M.st]
         cases h j with
         | none=>rfl
         | some o=>cases o with
           | map es=>
             simp only[zD]
             cases zxT key es with
             | none=>rfl
             | some r=>cases ok<;>rfl
           | _=>rfl
       | t q=>cases q with
         | nilm=>cases ok<;>rfl
         | _=>rfl
       | _=>rfl
@[go_sem ↓]theorem zqk (kd:Nat) (x y z:Opd) (w:W4 _ _ _ _):
 wO Γ G d p (⟨none,none,.mapupd kd x y z⟩::l) Q ⟨sl,u,h,n,b⟩ w=zfo false (ob (zxo G sl y) (fun k=>ob (zAs kd k) (fun key=>ob (zxo G sl z) (fun r=>ob (zxo G sl x) (zCe h key r) ⟨0⟩) ⟨0⟩) ⟨0⟩) ⟨0⟩) (fun _ hp=>wO Γ G d (p+1) l Q ⟨sl,u,Av h hp,n,b⟩ ⟨0⟩) ⟨0⟩:=by
 refine zkj rfl ?_;simp only[zw4,zaB,ob]
 cases zxo G sl y with
 | none=>rfl
 | some k=>
   simp only[zC,zD]
   cases zAs kd k with
   | none=>rfl
   | some key=>
     simp only[zD]
     cases zxo G sl z with
     | none=>rfl
     | some r=>
       simp only[zD]
       cases zxo G sl x with
       | none=>rfl
       | some v=>
         simp only[zD]
         cases v with
         | mm j=>
           simp only[M.st,zCe]
           cases h j with
           | none=>rfl
           | some o=>cases o with
             | map es=>
               simp only
               cases zx6 key r es with
               | none=>rfl
               | some es'=>simp only[zD];split<;>rfl
             | _=>rfl
         | _=>rfl
def zkb (d us:Bool) (h:Nat->Option O) (g:Nat) (vs:List V) (o:Option (List V)) (K:V->(Nat->Option O)->Prop) (_:WK K):Prop:=match o with
 | none=>False
 | some rs=>match Den Γ G g rs with
   | none=>False
   | some r=>us=false/\if r.scalar then K r h else(d=true->vs.flatMap (zxp h)=[])/\K r (Av h (freezes h (vs.flatMap (zxp h))))
def ziv (o:Option V) (d:Bool) (h:Nat->Option O) (vs:List V) (K:V->(Nat->Option O)->Prop) (_:WK K):Prop:=match o with
 | none=>False
 | some r=>if r.scalar then K r h else(d=true->vs.flatMap (zxp h)=[])/\K r (Av h (freezes h (vs.flatMap (zxp h))))
@[go_sem]theorem zpY (d:Bool) (h:Nat->Option O) (g:Nat) (vs rs:List V) (K:V->(Nat->Option O)->Prop) (w:WK K):
 zkb (Γ:=Γ) (G:=G) d false h g vs (some rs) K w=ziv (Den Γ G g rs) d h vs K ⟨0⟩:=by
 simp only[zkb,ziv]
 cases Den Γ G g rs with
 | none=>rfl
 | some r=>simp
@[go_sem]theorem zrf (k:IntKind) (n:Int) (d:Bool) (h:Nat->Option O) (vs:List V) (K:V->(Nat->Option O)->Prop) (w:WK K):ziv (some (.t (.int k n))) d h vs K w=K (.t (.int k n)) h:=by
 simp[ziv,V.scalar,V.scalar2,V.scalar1,T.scalar]
@[go_sem]theorem zpW (x:Bool) (d:Bool) (h:Nat->Option O) (vs:List V) (K:V->(Nat->Option O)->Prop) (w:WK K):ziv (some (.t (.bool x))) d h vs K w=K (.t (.bool x)) h:=by
 simp[ziv,V.scalar,V.scalar2,V.scalar1,T.scalar]
@[go_sem]theorem zlP (r:V) (d:Bool) (h:Nat->Option O) (vs:List V) (K:V->(Nat->Option O)->Prop) (w:WK K) (ht:vs.all V.tree=true):
 ziv (some r) d h vs K w=K r h:=by
 have hr:vs.flatMap (zxp h)=[]:=by
  simp only[List.flatMap_eq_nil_iff];intro v hv;exact zfH (zN.1 ht v hv)
 simp[ziv,hr,freezes,zar]
@[go_sem]theorem zre (r:V) (d:Bool) (h:Nat->Option O) (K:V->(Nat->Option O)->Prop) (w:WK K):ziv (some r) d h [] K w=K r h:=zlP r d h [] K w rfl
def zd5 (K:List V->Prop) (_:WK K) (o:Option (List V)):Prop:=match o with
 | none=>False
 | some vs=>K vs
@[go_sem]theorem zo2 (vs:List V) (K:List V->Prop) (w:WK K):zd5 K w (some vs)=K vs:=rfl
theorem zkQ {d:Bool} {t:Nat} {l:List ROp} {p:Nat} {Q:M->Prop} {sl:Nat->Slot} {u:Nat->Bool} {h:Nat->Option O} {n b g:Nat} {vs:List V}:
 znw Γ G d ⟨sl,u,h,n,b⟩ (some t) g vs (fun m'=>wpO Γ G d (p+1) l m' Q)=
  zkb (Γ:=Γ) (G:=G) d (u t) h g vs (vs.mapM (toT1 h)) (fun r h'=>wO Γ G d (p+1) l Q ⟨updC sl t ⟨r,none,none⟩,u,h',n,b⟩ ⟨0⟩) ⟨0⟩:=by
 rw[zal (α:=Slot)];rw[zol];simp only[zkb,M.free,Bool.and_true,wO,zaw,zb2]
 cases vs.mapM (toT1 h)with
 | none=>simp
 | some rs=>
   simp only
   cases Den Γ G g rs with
   | none=>simp
   | some r=>
     simp only[zqG,M.apply,zyd,zxu,Bool.not_eq_true']
@[go_sem ↓]theorem zs2 (t g:Nat) (args:List Opd) (w:W4 _ _ _ _):
 wO Γ G d p (⟨none,some t,.call false (.c (.t (.fn g [] []))) args⟩::l) Q ⟨sl,u,h,n,b⟩ w=
  zd5 (fun vs=>zkb (Γ:=Γ) (G:=G) d (u t) h g vs (vs.mapM (toT1 h)) (fun r h'=>wO Γ G d (p+1) l Q ⟨updC sl t ⟨r,none,none⟩,u,h',n,b⟩ ⟨0⟩) ⟨0⟩) ⟨0⟩ (zyI G sl args):=by
 unfold wO;rw[zaw];rw[zaI];simp only[zz5,evl,zD,zze,List.map_nil,zds]
 cases zyI G sl args with
 | none=>rfl
 | some vs=>
   simp only[zd5,List.nil_append,List.append_nil,zG,if_false];have e:=zkQ (Γ:=Γ) (G:=G) (d:=d) (t:=t) (l:=l) (p:=p) (Q:=Q) (sl:=sl) (u:=u) (h:=h) (n:=n) (b:=b) (g:=g) (vs:=vs);unfold wO at e;rw[zaw]at e;exact e
def fnK (o:Option V) (K:Nat->List V->List V->Prop) (_:WK K):Prop:=match o with
 | none=>False
 | some v=>match zze v with
   | none=>False
   | some (g,a,c)=>K g a c
@[go_sem]theorem ztP (g:Nat) (a c:List T) (K:Nat->List V->List V->Prop) (w:WK K):fnK (some (.t (.fn g a c))) K w=K g (a.map V.t) (c.map V.t):=rfl
@[go_sem ↓]theorem zry (t x:Nat) (args:List Opd) (w:W4 _ _ _ _):
 wO Γ G d p (⟨none,some t,.call false (.s x) args⟩::l) Q ⟨sl,u,h,n,b⟩ w=
  fnK (zxo G sl (.s x)) (fun g a c=>zd5 (fun vs=>zkb (Γ:=Γ) (G:=G) d (u t) h g (a++vs++c) ((a++vs++c).mapM (toT1 h)) (fun r h'=>wO Γ G d (p+1) l Q ⟨updC sl t ⟨r,none,none⟩,u,h',n,b⟩ ⟨0⟩) ⟨0⟩) ⟨0⟩ (zyI G sl args)) ⟨0⟩:=by
 unfold wO;rw[zaw];rw[zaI];simp only[zz5,zaB,zds]
 cases zxo G sl (.s x)with
 | none=>cases zyI G sl args<;>rfl
 | some v=>
   simp only[zD,fnK]
   cases zze v with
   | none=>
     simp only
     cases zyI G sl args with
     | none=>rfl
     | some vs=>
       simp only[zG,false_and]
       split<;>rfl
   | some q=>
     obtain⟨g,a,c⟩:=q;simp only
     cases zyI G sl args with
     | none=>rfl
     | some vs=>
       simp only[zd5,zG,if_false];have e:=zkQ (Γ:=Γ) (G:=G) (d:=d) (t:=t) (l:=l) (p:=p) (Q:=Q) (sl:=sl) (u:=u) (h:=h) (n:=n) (b:=b) (g:=g) (vs:=a++vs++c);unfold wO at e;rw[zaw]at e;exact e
def znH (us:Bool) (o:Option (V×(Nat->Option O)×Nat)) (K:V->(Nat->Option O)->Nat->Prop) (_:WK K):Prop:=match o with
 | none=>False
 | some (r,h,n)=>us=false/\K r h n
theorem zjk {d:Bool} {t:Nat} {l:List ROp} {p:Nat} {Q:M->Prop} {sl:Nat->Slot} {u:Nat->Bool} {h:Nat->Option O} {n b g:Nat} {vs:List V}:
 znv Γ G ⟨sl,u,h,n,b⟩ (some t) g vs (fun m'=>wpO Γ G d (p+1) l m' Q)=
  znH (u t) (DenR Γ G g vs h n) (fun r h' n'=>wO Γ G d (p+1) l Q ⟨updC sl t ⟨r,none,none⟩,u,h',n',b⟩ ⟨0⟩) ⟨0⟩:=by
 (try rw[zal (α:=Slot)])
 rw[zok];simp only[znH,M.free,Bool.and_true,wO,zaw]
 cases DenR Γ G g vs h n with
 | none=>simp
 | some q=>
   obtain⟨r,h',n'⟩:=q;simp only[M.apply,zyd,zxu,Bool.not_eq_true']
@[go_sem ↓]theorem zrn (t g:Nat) (args:List Opd) (w:W4 _ _ _ _):
 wO Γ G d p (⟨none,some t,.call true (.c (.t (.fn g [] []))) args⟩::l) Q ⟨sl,u,h,n,b⟩ w=
  zd5 (fun vs=>znH (u t) (DenR Γ G g vs h n) (fun r h' n'=>wO Γ G d (p+1) l Q ⟨updC sl t ⟨r,none,none⟩,u,h',n',b⟩ ⟨0⟩) ⟨0⟩) ⟨0⟩ (zyI G sl args):=by
 unfold wO;rw[zaw];rw[zaI];simp only[zz5,evl,zD,zze,List.map_nil,zds]
 cases zyI G sl args with
 | none=>rfl
 | some vs=>
   simp only[zd5,List.nil_append,List.append_nil,if_true];have e:=zjk (Γ:=Γ) (G:=G) (d:=d) (t:=t) (l:=l) (p:=p) (Q:=Q) (sl:=sl) (u:=u) (h:=h) (n:=n) (b:=b) (g:=g) (vs:=vs);unfold wO at e;rw[zaw]at e;exact e
def fnY (o:Option V) (K:Nat->List V->List V->Prop) (Y:Nat->Prop) (_:WK K) (_:WK Y):Prop:=match o with
 | none=>False
 | some v=>match zze v with
   | some (g,a,c)=>K g a c
   | none=>match zmi v with
     | some k=>Y k
     | none=>False
@[go_sem]theorem ztO (g:Nat) (a c:List V) (K:Nat->List V->List V->Prop) (Y:Nat->Prop) (w:WK K) (w':WK Y):fnY (some (.fn g a c)) K Y w w'=K g a c:=rfl
@[go_sem]theorem ztN (k:Nat) (K:Nat->List V->List V->Prop) (Y:Nat->Prop) (w:WK K) (w':WK Y):fnY (some (.yl k)) K Y w w'=Y k:=rfl
theorem znt {d:Bool} {t:Nat} {l:List ROp} {p:Nat} {Q:M->Prop} {sl:Nat->Slot} {u:Nat->Bool} {h:Nat->Option O} {n b k:Nat} {vs:List V}:
 znu Γ G ⟨sl,u,h,n,b⟩ (some t) k vs (fun m'=>wpO Γ G d (p+1) l m' Q)=
  znH (u t) (DenY Γ G k vs h n) (fun r h' n'=>wO Γ G d (p+1) l Q ⟨updC sl t ⟨r,none,none⟩,u,h',n',b⟩ ⟨0⟩) ⟨0⟩:=by
 (try rw[zal (α:=Slot)])
 rw[zoj];simp only[znH,M.free,Bool.and_true,wO,zaw]
 cases DenY Γ G k vs h n with
 | none=>simp
 | some q=>
   obtain⟨r,h',n'⟩:=q;simp only[M.apply,zyd,zxu,Bool.not_eq_true']
def zpM (us:Bool) (h:Nat->Option O) (key g:Nat) (vs:List V) (K:V->List (Nat×O)->Prop) (_:WK K):Prop:=
 us=false/\vs.flatMap (zxp h)=[]/\ ∃rs,vs.mapM (toT1 h)=some rs/\ ∃r h' n',DenR Γ G g rs (fun _=>none) 0=some (r,h',n')/\ ∃e,zBy key r h'=some e/\K e.val e.hp
@[go_sem ↓]theorem zrw (t g:Nat) (args:List Opd) (w:W4 _ _ _ _):
 wO Γ G d p (⟨none,some t,.fcall (.c (.t (.fn g [] []))) args⟩::l) Q ⟨sl,u,h,n,b⟩ w=
  zd5 (fun vs=>zpM (Γ:=Γ) (G:=G) (u t) h (b+p) g vs (fun v hp=>wO Γ G d (p+1) l Q ⟨updC sl t ⟨v,none,none⟩,u,Av h hp,n,b⟩ ⟨0⟩) ⟨0⟩) ⟨0⟩ (zyI G sl args):=by
 unfold wO;rw[zaw];rw[zaI];simp only[zz5,evl,zD,zze,List.map_nil,zds]
 cases zyI G sl args with
 | none=>rfl
 | some vs=>
   simp only[zd5,List.nil_append,List.append_nil,zpZ,zpM,M.free,Bool.and_true,Bool.not_eq_true'];apply propext;constructor
   ·rintro⟨h1,h2,rs,h3,r,h',n',h4,_,e,h5,h6⟩;refine⟨h1,h2,rs,h3,r,h',n',zym.2 h4,e,h5,?_⟩;obtain⟨s1,s2,s3⟩:=zy3 h5;rw[zal,zb2];simpa[M.apply,zyd,s1,s2,s3]using h6
   ·rintro⟨h1,h2,rs,h3,r,h',n',h4,e,h5,h6⟩;refine⟨h1,h2,rs,h3,r,h',n',zym.1 h4,zoU (zym.1 h4),e,h5,?_⟩;obtain⟨s1,s2,s3⟩:=zy3 h5;rw[zal,zb2]at h6;simpa[M.apply,zyd,s1,s2,s3]using h6
@[go_sem ↓]theorem zqi (t x:Nat) (args:List Opd) (w:W4 _ _ _ _):
 wO Γ G d p (⟨none,some t,.call true (.s x) args⟩::l) Q ⟨sl,u,h,n,b⟩ w=
  fnY (zxo G sl (.s x)) (fun g a c=>zd5 (fun vs=>znH (u t) (DenR Γ G g (a++vs++c) h n) (fun r h' n'=>wO Γ G d (p+1) l Q ⟨updC sl t ⟨r,none,none⟩,u,h',n',b⟩ ⟨0⟩) ⟨0⟩) ⟨0⟩ (zyI G sl args))
   (fun k=>zd5 (fun vs=>znH (u t) (DenY Γ G k vs h n) (fun r h' n'=>wO Γ G d (p+1) l Q ⟨updC sl t ⟨r,none,none⟩,u,h',n',b⟩ ⟨0⟩) ⟨0⟩) ⟨0⟩ (zyI G sl args)) ⟨0⟩ ⟨0⟩:=by
 unfold wO;rw[zaw];rw[zaI];simp only[zz5,zaB,zds]
 cases zxo G sl (.s x)with
 | none=>cases zyI G sl args<;>rfl
 | some v=>
   simp only[zD,fnY]
   cases zze v with
   | none=>
     simp only
     cases zmi v with
     | none=>cases zyI G sl args<;>rfl
     | some k=>
       simp only
       cases zyI G sl args with
       | none=>rfl
       | some vs=>
         simp only[zd5,true_and];have e:=znt (Γ:=Γ) (G:=G) (d:=d) (t:=t) (l:=l) (p:=p) (Q:=Q) (sl:=sl) (u:=u) (h:=h) (n:=n) (b:=b) (k:=k) (vs:=vs);unfold wO at e;rw[zaw]at e
         exact e
   | some q=>
     obtain⟨g,a,c⟩:=q;simp only
     cases zyI G sl args with
     | none=>rfl
     | some vs=>
       simp only[zd5,if_true];have e:=zjk (Γ:=Γ) (G:=G) (d:=d) (t:=t) (l:=l) (p:=p) (Q:=Q) (sl:=sl) (u:=u) (h:=h) (n:=n) (b:=b) (g:=g) (vs:=a++vs++c);unfold wO at e;rw[zaw]at e;exact e
def resVal:V->Option V
 | .undef=>none
 | .lb=>none
 | .tup _=>none
 | v=>some v
attribute [go_sem] resVal
def zCC (h:Nat->Option O) (ag:Bool) (n:Nat):V->Option V
 | .mp k i off=>match h k with
   | some (.rows _ rs _)=>(rs[i]?).bind fun row=>(rd row off n).bind (zxZ ag)
   | _=>none
 | _=>none
attribute [go_sem] zCC
theorem zrK (sl:Nat->Slot) (u:Nat->Bool) (h:Nat->Option O) (n b t:Nat):zyX (M.st ⟨sl,u,h,n,b⟩) (.s t)=resVal (sl t).v:=by
 simp only[zyX,M.st];cases(sl t).v<;>rfl
theorem zrL (sl:Nat->Slot) (u:Nat->Bool) (h:Nat->Option O) (n b t:Nat) (ag:Bool) (k:Nat):zyX (M.st ⟨sl,u,h,n,b⟩) (.l t ag k)=ob (sl t).box (fun cs=>ob (rd cs 0 k) (zxZ ag) ⟨0⟩) ⟨0⟩:=rfl
theorem zrM (sl:Nat->Slot) (u:Nat->Bool) (h:Nat->Option O) (n b t:Nat) (ag:Bool) (k:Nat):zyX (M.st ⟨sl,u,h,n,b⟩) (.h t ag k)=zCC h ag k (sl t).v:=by
 simp only[zyX,M.st,zCC]
 cases(sl t).v with
 | mp q i off=>simp only;cases h q with
   | none=>rfl
   | some o=>cases o with
     | rows sz rs z=>rfl
     | _=>rfl
 | _=>rfl
def zDp:List V->V
 | [v]=>v
 | vs=> .tup vs
attribute [go_sem] zDp
theorem zkJ (sl:Nat->Slot) (u u':Nat->Bool) (h:Nat->Option O) (n b n' b':Nat) (r:Res):zyX (M.st ⟨sl,u,h,n,b⟩) r=zyX (M.st ⟨sl,u',h,n',b'⟩) r:=by
 cases r<;>rfl
structure W5 (sl:Nat->Slot) (h:Nat->Option O) (rs:List Res) (acc:List V) (K:V->Prop)where
 n:Nat
def zhS (sl:Nat->Slot) (h:Nat->Option O) (rs:List Res) (acc:List V) (K:V->Prop) (_:W5 sl h rs acc K):Prop:=
 match rs.mapM (zyX (M.st ⟨sl,fun _=>false,h,0,0⟩))with
 | none=>False
 | some vs=>K (zDp (acc++vs))
@[go_sem ↓]theorem zqF (sl:Nat->Slot) (h:Nat->Option O) (acc:List V) (K:V->Prop) (w:W5 sl h [] acc K):zhS sl h [] acc K w=K (zDp acc):=by simp[zhS]
theorem zeO (sl:Nat->Slot) (h:Nat->Option O) (r:Res) (rs:List Res) (acc:List V) (K:V->Prop) (w:W5 sl h (r::rs) acc K):
 zhS sl h (r::rs) acc K w=zyF false (zyX (M.st ⟨sl,fun _=>false,h,0,0⟩) r) (fun v=>zhS sl h rs (acc++[v]) K ⟨0⟩) ⟨0⟩:=by
 simp only[zhS,List.mapM_cons,zC]
 cases zyX (M.st ⟨sl,fun _=>false,h,0,0⟩) r with
 | none=>rfl
 | some v=>
   simp only[zD,zyF,true_and]
   cases rs.mapM (zyX (M.st ⟨sl,fun _=>false,h,0,0⟩))with
   | none=>rfl
   | some vs=>simp
@[go_sem ↓]theorem zs8 (sl:Nat->Slot) (h:Nat->Option O) (t:Nat) (rs:List Res) (acc:List V) (K:V->Prop) (w:W5 sl h (.s t::rs) acc K):
 zhS sl h (.s t::rs) acc K w=zyF false (resVal (sl t).v) (fun v=>zhS sl h rs (acc++[v]) K ⟨0⟩) ⟨0⟩:=by rw[zeO,zrK]
@[go_sem ↓]theorem zs9 (sl:Nat->Slot) (h:Nat->Option O) (t:Nat) (ag:Bool) (k:Nat) (rs:List Res) (acc:List V) (K:V->Prop) (w:W5 sl h (.l t ag k::rs) acc K):
 zhS sl h (.l t ag k::rs) acc K w=zyF false (ob (sl t).box (fun cs=>ob (rd cs 0 k) (zxZ ag) ⟨0⟩) ⟨0⟩) (fun v=>zhS sl h rs (acc++[v]) K ⟨0⟩) ⟨0⟩:=by rw[zeO,zrL]
@[go_sem ↓]theorem zta (sl:Nat->Slot) (h:Nat->Option O) (t:Nat) (ag:Bool) (k:Nat) (rs:List Res) (acc:List V) (K:V->Prop) (w:W5 sl h (.h t ag k::rs) acc K):
 zhS sl h (.h t ag k::rs) acc K w=zyF false (zCC h ag k (sl t).v) (fun v=>zhS sl h rs (acc++[v]) K ⟨0⟩) ⟨0⟩:=by rw[zeO,zrM]
theorem zeP (sl:Nat->Slot) (u:Nat->Bool) (h:Nat->Option O) (n b:Nat) (rs:List Res) (K:V->Prop):
 (∃v,zyQ (M.st ⟨sl,u,h,n,b⟩) rs=some v/\K v)=zhS sl h rs [] K ⟨0⟩:=by
 have:zyX (M.st ⟨sl,u,h,n,b⟩)=zyX (M.st ⟨sl,fun _=>false,h,0,0⟩):=funext fun r=>zkJ sl u _ h n b 0 0 r
 simp only[zyQ,this,zhS,List.nil_append,zC]
 cases rs.mapM (zyX (M.st ⟨sl,fun _=>false,h,0,0⟩))with
 | none=>simp
 | some vs=>
   simp only[zD]
   cases vs with
   | nil=>simp[zDp]
   | cons v vs=>cases vs<;>simp[zDp]
def Fi (rs:List Res) (r:V) (e:Ex) (m:M):Prop:=Fin rs r e m
@[go_sem ↓]theorem zsV (rs:List Res) (r:V) (sl:Nat->Slot) (u:Nat->Bool) (h:Nat->Option O) (n b:Nat):Fi rs r .ret ⟨sl,u,h,n,b⟩=zhS sl h rs [] (fun v=>reify h v=some r) ⟨0⟩:=by
 rw[Fi,zps,zeP]
def FiR (rs:List Res) (P:V->(Nat->Option O)->Nat->Prop) (e:Ex) (m:M):Prop:=zDa rs P e m
@[go_sem ↓]theorem zrt (rs:List Res) (P:V->(Nat->Option O)->Nat->Prop) (sl:Nat->Slot) (u:Nat->Bool) (h:Nat->Option O) (n b:Nat):FiR rs P .ret ⟨sl,u,h,n,b⟩=zhS sl h rs [] (fun v=>SpN (P v h n) ⟨0⟩) ⟨0⟩:=by
 rw[FiR,zoh,<- zeP sl u h n b];rfl
@[go_sem ↓]theorem zru (rs:List Res) (P:V->(Nat->Option O)->Nat->Prop) (sl:Nat->Slot) (u:Nat->Bool) (h:Nat->Option O) (n b:Nat):FiR rs P .normal ⟨sl,u,h,n,b⟩=zhS sl h rs [] (fun v=>SpN (P v h n) ⟨0⟩) ⟨0⟩:=by
 rw[FiR,zoi,<- zeP sl u h n b];rfl
theorem zw3 {g:Nat} {args:List V} {fn:F} {r:V} (hg:Γ g=some fn) (hr:fn.raw=false)
 (h:wC Γ G fn.body (qOf Γ G [] (Fi fn.results r)) ⟨slotsC args 0,fun _=>false,fun _=>none,0,0⟩ ⟨0⟩):Den Γ G g args=some r:=zpV hg hr (by unfold wC at h;rw[zaU,zbb,zeI]at h;exact h)
theorem zxC {g:Nat} {args:List V} {fn:F} {hp:Nat->Option O} {n:Nat} {P:V->(Nat->Option O)->Nat->Prop} (hg:Γ g=some fn) (hr:fn.raw=true)
 (h:wC Γ G fn.body (qOf Γ G [] (FiR fn.results P)) ⟨slotsC args 0,fun _=>false,hp,n,n⟩ ⟨0⟩): ∃r h' n',DenR Γ G g args hp n=some (r,h',n')/\P r h' n':=zoI hg hr (by unfold wC at h;rw[zaU,zbb,zeI]at h;exact h)
theorem zaq {b:C} {sl:Nat->Slot} {us:Nat->Bool} {nx ba:Nat} {Q:Ex->M->Prop} {w:W3 b Q ⟨sl,us,fun _=>none,nx,ba⟩} (k:Nat) (n:Nat) (Inv:Nat->(Nat->Slot)->Prop) (hW:b.wrIn (zAm k)=true) (hH:b.noH=true)
 (h0:Inv 0 sl)
 (h: ∀i f u x bs,i<=n->Inv i f->wC Γ G b (qOf Γ G [] (zzp (fun m'=>SpN (i<n/\Inv (i+1) m'.sl) ⟨0⟩) Q)) ⟨ovrM k f sl,u,fun _=>none,x,bs⟩ ⟨0⟩):wL Γ G b Q ⟨sl,us,fun _=>none,nx,ba⟩ w:=
 by
  unfold wL;rw[zcV];exact zrS _ n Inv hW hH h0 (by unfold ovrM wC at h;rw[zgl,zaU,zbb]at h;exact h)
theorem zap {b:C} {sl:Nat->Slot} {us:Nat->Bool} {hp:Nat->Option O} {nx ba:Nat} {Q:Ex->M->Prop} {w:W3 b Q ⟨sl,us,hp,nx,ba⟩} (k:Nat) (n:Nat) (Inv:Nat->(Nat->Slot)->(Nat->Option O)->Nat->Prop) (hW:b.wrIn (zAm k)=true)
 (h0:Inv 0 sl hp nx)
 (h: ∀i f u h x bs,i<=n->Inv i f h x->wC Γ G b (qOf Γ G [] (zzp (fun m'=>SpN (i<n/\Inv (i+1) m'.sl m'.heap m'.nxt) ⟨0⟩) Q)) ⟨ovrM k f sl,u,h,x,bs⟩ ⟨0⟩):wL Γ G b Q ⟨sl,us,hp,nx,ba⟩ w:=
 by
  unfold wL;rw[zcV];exact zpD _ n Inv hW h0 (by unfold ovrM wC at h;rw[zgl,zaU,zbb]at h;exact h)
@[go_sem ↓]theorem zsM (sl:Nat->Slot) (u:Nat->Bool) (h:Nat->Option O) (n b:Nat):(M.mk sl u h n b).sl=sl:=rfl
end
end Rg
namespace Rg
open Go
theorem zai {Γ:Nat->Option F} {G:Nat->List T} {b:C} {Q:Ex->M->Prop} {m:M} {w:W3 b Q m} (h:wC Γ G b (qOf Γ G [] (zzp (fun m'=>wL Γ G b Q m' ⟨0⟩) Q)) m ⟨0⟩):wL Γ G b Q m w:=
 by
  unfold wC at h;rw[zaU,zbb]at h;unfold wL at h⊢;rw[zcV]at h⊢;exact zl5 (zB0 h)
end Rg
namespace Rg
open Go
theorem zas {o:Option (V×(Nat->Option O)×Nat)} {P:V->(Nat->Option O)->Nat->Prop} {K:V->(Nat->Option O)->Nat->Prop} {w:WK K}
 (h: ∃r h' n',o=some (r,h',n')/\P r h' n') (hk: ∀r h' n',P r h' n'->K r h' n'):znH false o K w:=by
 obtain⟨r,h',n',rfl,hp⟩:=h;exact⟨rfl,hk r h' n' hp⟩
attribute [go_sem] List.isEmpty_cons List.isEmpty_nil List.set_cons_zero List.set_cons_succ Nat.lt_add_one Nat.zero_add Option.isSome_some ne_eq Int.cast_ofNat_Int decide_true decide_false not_false_eq_true not_true_eq_false and_self exists_eq_left' V.t.injEq T.bool.injEq T.int.injEq V.agg.injEq V.tup.injEq List.cons.injEq
theorem zab:(∀(p:Prop) [Decidable p],(decide p=true)=p)/\(∀(p:Prop) [Decidable p],(decide p=false)<-> ¬p)/\(∀(α:Type) [BEq α] [LawfulBEq α] (a b:α),(a==b)=true<->a=b)
 /\(∀(α:Type) [BEq α] [LawfulBEq α] (a b:α),(a != b)=true<->a≠b)/\(∀(α:Type) [BEq α] [LawfulBEq α] (x y:α),(x==y)=false<->x≠y)/\(∀(α:Type) [BEq α] [LawfulBEq α] (a b:α),(a != b)=false<->a=b)
 /\(∀b:Bool,((!b)=true)=(b=false))/\(∀b:Bool,((!b)=false)=(b=true))/\(∀b c:Bool,((!b)=c)=(b= !c))/\((!true)=false)/\((!false)=true)/\(∀(α:Type) (a b:α),(a≠b)= ¬a=b)/\(∀(p:Prop) [Decidable p],¬¬p<->p):=
 ⟨fun _ _=>decide_eq_true_eq,fun _ _=>decide_eq_false_iff_not,fun _ _ _ _ _=>beq_iff_eq,fun _ _ _ _ _=>bne_iff_ne,fun _ _ _ _ _=>beq_eq_false_iff_ne,fun _ _ _ _ _=>bne_eq_false_iff_eq,Bool.not_eq_true',Bool.not_eq_false',
  fun _ _=>by simp,rfl,rfl,fun _ _ _=>rfl,fun _ _=>Decidable.not_not⟩
end Rg
end
section
set_option maxRecDepth 100000
namespace Go.Proofs.YtaiokglcgiemnaaGreatDoor
open Go Rg Go.ChangeShapes Go.WideShapes Go.ChangeAt Go.WideMaps Go.WideElems Go.RowKit
theorem own:ownKnob Tryz.prog.godebug=none:=by kernel_rfl
theorem zou:laidOutB Tryz.prog=true:=by kernel_rfl
def ty:Tys:=⟨3,4,9,5,28,46,33,31,81,22,109,100,102,36,35,37,39,25,128,23,132,24,27,107,110,49,51,54⟩
theorem zpc:ty.Ok Tryz.prog:=⟨⟨⟨by kernel_rfl,by kernel_rfl,by kernel_rfl,by kernel_rfl,by kernel_rfl,by kernel_rfl,by kernel_rfl,by kernel_rfl,by kernel_rfl,by kernel_rfl,by kernel_rfl,by kernel_rfl,by kernel_rfl,by kernel_rfl,by kernel_rfl,by kernel_rfl,by kernel_rfl,by kernel_rfl,by kernel_rfl,by kernel_rfl,by kernel_rfl,by kernel_rfl⟩,by kernel_rfl⟩,by kernel_rfl,by kernel_rfl,by kernel_rfl,by kernel_rfl,by kernel_rfl⟩
theorem zB2:ty.OkP Tryz.prog:=zpc.toOkP
theorem zA0:ty.Ok0 Tryz.prog:=zB2.toOk0
abbrev zk9:List (String×DataW Unit):=Rows.terminationBoundRow.laid
theorem zC6 {W:World} (h:laidMetH Tryz.prog zk9 W):zjr Seat.N (fun r=>r<W.heap.size) W:=by
 intro k j x hx
 match k,hx with
 | 0, hx => exact zi9 (nm := "relyguard/expr.masks") (g := 0) (k := 0) (t := 149) (e := 3) (ls := [.int .i64 0, .int .i64 1, .int .i64 3, .int .i64 7, .int .i64 15, .int .i64 31, .int .i64 63, .int .i64 127, .int .i64 255]) (by kernel_rfl) h (zL (i := 3) rfl) (by kernel_rfl) (by kernel_rfl) (by kernel_rfl) (.inr ⟨.i64, by kernel_rfl⟩) (by kernel_rfl) (by kernel_rfl) rfl rfl j x hx
 | 1,hx=>exact(by have h0:([]:List T)[j]? =some x:=hx;rw[List.getElem?_nil]at h0;cases h0)
 | 2, hx => exact zi9 (nm := "internal/strconv.uint64pow10") (g := 1) (k := 2) (t := 288) (e := 207) (ls := [.int .u64 1, .int .u64 10, .int .u64 100, .int .u64 1000, .int .u64 10000, .int .u64 100000, .int .u64 1000000, .int .u64 10000000, .int .u64 100000000, .int .u64 1000000000, .int .u64 10000000000, .int .u64 100000000000, .int .u64 1000000000000, .int .u64 10000000000000, .int .u64 100000000000000, .int .u64 1000000000000000, .int .u64 10000000000000000, .int .u64 100000000000000000, .int .u64 1000000000000000000, .int .u64 10000000000000000000]) (by kernel_rfl) h (zL (i := 2) rfl) (by kernel_rfl) (by kernel_rfl) (by kernel_rfl) (.inr ⟨.u64, by kernel_rfl⟩) (by kernel_rfl) (by kernel_rfl) rfl rfl j x hx
 | k+3,hx=>exact(by have h0:([]:List T)[j]? =some x:=hx;rw[List.getElem?_nil]at h0;cases h0)
theorem inv:Seat.I.Ok Seat.N:=zpL (fun q k h=>by
 split at h
 ·cases h;rename_i hq;exact⟨hq.symm,by intro h;cases h⟩
 ·split at h
  ·cases h;rename_i hq;exact⟨hq.symm,by intro h;cases h⟩
  ·cases h)
theorem zrD:zl6 Tryz.prog Seat.I Seat.N Rg.Γ:=fun g fn h=>Seat.all (g,fn) (zAA h)
theorem zon {g:Nat} {av:List V} {r:V} (h:Den Rg.Γ Rg.G g av=some r):zfl Tryz.prog Seat.N g av r:=
 zlX inv zrD (by kernel_rfl) (fun _ _ _=>Iff.rfl) (zzw.1 h)
theorem zCF (os:Os) (args:Array Value):laidMetH Tryz.prog zk9 ((World.doorLaid Tryz.prog 400 os).forCall (fun _ _=>0) ⟨#[],args,[]⟩).memory:=
 laidMetH_of_parts3 (fuel:=8) (laidMet_of_run' 8 (by kernel_rfl) (by kernel_rfl)) (by kernel_rfl) (by kernel_rfl)
end Go.Proofs.YtaiokglcgiemnaaGreatDoor
end
section
namespace Rg
open Go
theorem zbR (n:Int) (hn:n<=62):Den Γ G 33 [vi n]=some (vi (2^n.toNat)):=by
 (refine zw3 Γ33 rfl ?_;dsimp only[f33])
 simp -dsimp only[go_sem,seval];refine zaq 4088 n.toNat (fun i f=>(f 4).v=vi i/\(f 3).v=vi (2^i)) rfl rfl ⟨by simp -dsimp only[go_sem,seval],by simp -dsimp only[go_sem,seval,Int.pow_zero]⟩ ?_;rintro i f u kk bb hi ⟨h4,h3⟩;have hw:=zag i (by omega);simp -dsimp only[go_sem,seval,h4,h3,hw];refine zw1 (fun h=> ?_) (fun h=> ?_)<;>(try simp only[zab]at h)<;>(try simp -dsimp only[go_sem,seval,h4,h3,hw, *])
 ·have h2:(2:Int)^i<=2^61:=zcn (by omega);have BZ:=zxD i;have hp:IntKind.i64.wrap ((2:Int)^i*2)=2^(i+1):=by rw[zaj (by omega),Int.pow_succ]
  exact⟨by omega,by simp -dsimp only[go_sem,seval],by simp -dsimp only[go_sem,seval,hp]⟩
 ·have:i=n.toNat:=by omega
  rw[this]
def zyl (op:Int):Int:=
 if 1<=op/\op<=3 then 0 else if op=4 then 1 else if 5<=op/\op<=13 then 2 else if op=14 then 3 else -1
theorem zlZ (op:Int):Den Γ G 116 [vi op]=some (vi (zyl op)):=by
 (refine zw3 Γ116 rfl ?_;dsimp only[zra])
 simp -dsimp only[go_sem,seval]
 repeat'(refine zw1 (fun h=> ?_) (fun h=> ?_)<;>(try simp only[zab]at h)<;>(try simp -dsimp only[go_sem,seval, *]))
 all_goals(unfold zyl;grind)
theorem ziQ (e:Expr): ∀l:Int,l<2^40->Den Γ G 47 [(.agg [.t (ti (e).op),.t (ti (e).w),.t (ti (e).n),.t (.sl ((e).kids.map (Expr.enc)))]),vi l]=some (vi (if l<=0 then 0 else min (e.size:Int) l)):=by
 induction e using Expr.ind with
 | _ e ih=>
 intro l hl;have AM:=Expr.size_eq e;have Ac:=Expr.len_le_size e.kids
 (refine zw3 Γ47 rfl ?_;dsimp only[f47])
 simp -dsimp only[go_sem,seval];refine zw1 (fun h=> ?_) (fun h=> ?_)<;>(try simp only[zab]at h)<;>(try simp -dsimp only[go_sem,seval, *])
 refine zaq 4294966880 e.kids.length (fun i f=>(f 6).v=vi i/\(f 5).v=vi (min (1+((e.kids.take i).map Expr.size).sum:Nat) l)) rfl rfl ⟨by simp -dsimp only[go_sem,seval],by simp -dsimp only[go_sem,seval];simp;omega⟩ ?_;rintro i f u kk bb hi ⟨h6,h5⟩;have hp:=Expr.take_le_size e.kids i;have AN:=Expr.len_le_size (e.kids.take i);rw[List.length_take,Nat.min_eq_left hi]at AN;simp -dsimp only[go_sem,seval,h6,h5];refine zw1 (fun h=> ?_) (fun h=> ?_)<;>(try simp only[zab]at h)<;>(try simp -dsimp only[go_sem,seval,h6,h5, *])
 ·refine zw1 (fun h=> ?_) (fun h=> ?_)<;>(try simp only[zab]at h)<;>(try simp -dsimp only[go_sem,seval,h6,h5, *])
  ·have hw:=zag i (by omega);obtain⟨x,hx,hm⟩:=zad ‹i<e.kids.length›;have ht:=zac hx;have EY:min (((1+((e.kids.take i).map Expr.size).sum:Nat):Int)) l=((1+((e.kids.take i).map Expr.size).sum:Nat):Int):=by omega
   rw[EY]at h5;have Cq:IntKind.i64.wrap (l-((1+((e.kids.take i).map Expr.size).sum:Nat):Int))=l-((1+((e.kids.take i).map Expr.size).sum:Nat):Int):=zaj (by omega);have hd:=ih x hm (l-((1+((e.kids.take i).map Expr.size).sum:Nat):Int)) (by omega);simp -dsimp only[go_sem,seval,h6,h5,hw,hx,Cq,hd];refine⟨by omega,by simp -dsimp only[go_sem,seval],?_⟩;simp -dsimp only[go_sem,seval];rw[if_neg (by omega),ht,zaj (by omega)];simp only[List.map_append,List.sum_append,List.map_cons,List.map_nil,List.sum_cons,List.sum_nil];omega
  ·omega
 ·have:i=e.kids.length:=by omega
  subst this;rw[List.take_length];omega
def zxt (e:Expr):Bool:=
 if zyl e.op≠e.kids.length\/e.w<1\/e.w>8 then false
 else if e.op=1 then decide (0<=e.n/\e.n<2^e.w.toNat)
 else if e.op=2\/e.op=3 then decide (0<=e.n/\e.n<32)
 else if e.op=4 then decide (e.n=0/\e.kw 0=e.w)
 else if e.op=11\/e.op=12\/e.op=13 then decide (e.n=0/\e.w=1/\e.kw 0=e.kw 1)
 else if e.op=14 then decide (e.n=0/\e.kw 0=1/\e.kw 1=e.w/\e.kw 2=e.w)
 else decide (e.n=0/\e.kw 0=e.w/\e.kw 1=e.w)
def Expr.deep:Nat->Expr->Bool
 | 0,_=>false
 | d+1,e=>zxt e&&e.kids.all (Expr.deep d)
theorem zbH {α:Type} {l:List α} {i:Nat} {x:α} {p:α->Bool} (h:l[i]? =some x) (h1:(l.take i).all p=true) (h2:p x=true):(l.take (i+1)).all p=true:=by
 rw[zac h,List.all_append,h1];simp[h2]
theorem za7 {α:Type} {l:List α} {x:α} {p:α->Bool} (h:x∈l) (h2:p x=false):l.all p=false:=by
 rw[List.all_eq_false];exact⟨x,h,by simp[h2]⟩
theorem zny (op:Int):zyl op<=3:=by unfold zyl;grind
theorem zbr {e:Expr} (h:zxt e=true):e.kids.length<=3:=by
 have:=zny e.op;unfold zxt at h;split at h
 ·simp at h
 ·rename_i h';simp only[not_or,Decidable.not_not]at h';omega
end Rg
end
section
-- FULL
namespace Rg
open Go
theorem zbZ (op:Int):op=1\/op=2\/op=3\/op=4\/op=5\/op=6\/op=7\/op=8\/op=9\/op=10\/op=11\/op=12\/op=13\/op=14\/(op<1\/14<op):=by omega
theorem zbV {op:Int} (h:op<1\/14<op):zyl op= -1:=by unfold zyl;grind
set_option maxHeartbeats 2000000
theorem zmQ (e:Expr):Den Γ G 89 [(.agg [.t (ti (e).op),.t (ti (e).w),.t (ti (e).n),.t (.sl ((e).kids.map (Expr.enc)))])]=some (vb (zxt e)):=by
 (refine zw3 Γ89 rfl ?_;dsimp only[f89])
 obtain⟨op,w,n,ks⟩:=e;have ha:=zlZ op
 by_cases hk:zyl op=(ks.length:Int)
 ·by_cases hw:1<=w/\w<=8
  ·have h1: ¬w<1:=by omega
   have h2: ¬w>8:=by omega
   have hp:=zbR w (by omega);rcases zbZ op with rfl | rfl | rfl | rfl | rfl | rfl | rfl | rfl | rfl | rfl | rfl | rfl | rfl | rfl | Ao
   rotate_right
   ·rw[zbV Ao]at hk;omega
   all_goals(
    rcases ks with _ | ⟨a,_ | ⟨b,_ | ⟨c,_ | ⟨d,r⟩⟩⟩⟩
    all_goals(try(exfalso;simp[zyl]at hk;(try omega);done))
    all_goals(
     simp -dsimp [go_sem,ha,hp,hk,h1,h2,bne_self_eq_false]
     repeat'(refine zw1 (fun h=> ?_) (fun h=> ?_)<;>(try simp only[zab]at h)<;>(try simp -dsimp [go_sem,hp, *]))
     all_goals(simp only[zxt,go_sem,Expr.kw,List.getD_cons_zero,List.getD_cons_succ];grind)))
  ·by_cases h1:w<1
   ·simp -dsimp [go_sem,ha,hk,bne_self_eq_false,h1];simp only[zxt,go_sem];grind
   ·have h2:w>8:=by omega
    simp -dsimp [go_sem,ha,hk,bne_self_eq_false,h1,h2];simp only[zxt,go_sem];grind
 ·have Ag:(zyl op != (ks.length:Int))=true:=by simpa using hk
  simp -dsimp [go_sem,ha,Ag];simp only[zxt,go_sem];grind
end Rg
end
section
namespace Rg
open Go
theorem znj (d:Nat): ∀(e:Expr) (l:Int),l.toNat=d->l<=100->Den Γ G 68 [(.agg [.t (ti (e).op),.t (ti (e).w),.t (ti (e).n),.t (.sl ((e).kids.map (Expr.enc)))]),vi l]=some (vb (e.deep d)):=by
 induction d with
 | zero=>
   intro e l hl EG
   (refine zw3 Γ68 rfl ?_;dsimp only[f68])
   have h1:l<1:=by omega
   simp -dsimp only[go_sem,seval,h1]
   rfl
 | succ d ih=>
   intro e l hl EG
   (refine zw3 Γ68 rfl ?_;dsimp only[f68])
   have h1: ¬l<1:=by omega
   have hn:=zmQ e;simp -dsimp only[go_sem,seval,h1,hn];refine zw1 (fun h=> ?_) (fun h=> ?_)<;>(try simp only[zab]at h)<;>(try simp -dsimp only[go_sem,seval, *])
   ·simp only[Expr.deep,h,Bool.false_and]
   ·have Ac:=zbr h;refine zaq 536862768 e.kids.length (fun i f=>(f 5).v=vi i/\(e.kids.take i).all (Expr.deep d)=true) rfl rfl ⟨by simp -dsimp only[go_sem,seval],by simp⟩ ?_;rintro i f u kk bb hi ⟨h5,Aa⟩;have hw:=zag i (by omega);simp -dsimp only[go_sem,seval,h5];refine zw1 (fun h=> ?_) (fun h=> ?_)<;>(try simp only[zab]at h)<;>(try simp -dsimp only[go_sem,seval, *])
    ·obtain⟨x,hx,hm⟩:=zad ‹i<e.kids.length›;have Cq:IntKind.i64.wrap (l-1)=l-1:=zaj (by omega);have hd:=ih x (l-1) (by omega) (by omega);simp -dsimp only[go_sem,seval,h5,hx,Cq,hd];refine zw1 (fun h=> ?_) (fun h=> ?_)<;>(try simp only[zab]at h)<;>(try simp -dsimp only[go_sem,seval, *])
     ·rw[Expr.deep,za7 hm h];simp
     ·exact⟨by omega,by simp -dsimp only[go_sem,seval,hw],zbH hx Aa h⟩
    ·have:i=e.kids.length:=by omega
     subst this;rw[List.take_length]at Aa;simp only[Expr.deep,Aa,Bool.and_true];simp_all
def Expr.formed (e:Expr):Bool:=decide (e.size<=600)&&e.deep 40
theorem zd1 (e:Expr):Den Γ G 48 [(.agg [.t (ti (e).op),.t (ti (e).w),.t (ti (e).n),.t (.sl ((e).kids.map (Expr.enc)))])]=some (vb e.formed):=by
 (refine zw3 Γ48 rfl ?_;dsimp only[f48])
 have h1:=ziQ e 601 (by omega);have h2:=znj 40 e 40 rfl (by omega);simp -dsimp only[go_sem,seval,h1,h2];refine zw1 (fun h=> ?_) (fun h=> ?_)<;>(try simp only[zab]at h)<;>(try simp -dsimp only[go_sem,seval, *])
 ·have:e.size<=600:=by omega
  simp[Expr.formed,this]
 ·have : ¬e.size<=600:=by omega
  simp[Expr.formed,this]
theorem zbO (e:Expr) (l:Int) (hl:0<=l/\l<10000):Den Γ G 23 [(.agg [.t (ti (e).op),.t (ti (e).w),.t (ti (e).n),.t (.sl ((e).kids.map (Expr.enc)))]),vi l]=some (vb (decide ((e.size:Int)<=l))):=by
 (refine zw3 Γ23 rfl ?_;dsimp only[f23])
 have hw:IntKind.i64.wrap (l+1)=l+1:=zaj (by omega);have h1:=ziQ e (l+1) (by omega);simp -dsimp only[go_sem,seval,h1,hw];rw[if_neg (by omega)];simp;omega
def zxS (cells:List Cell) (pair:Bool) (e:Expr):Bool:=
 if e.op=3/\pair=false then false
 else if(e.op=3\/e.op=2)then(match cells[e.n.toNat]? with | some c=>decide (c.w=e.w) | none=>false)
 else true
def Expr.nneg (e:Expr):Bool:=e.allE fun x=>decide (0<=x.n/\x.kids.length<=3)
theorem zmL (cells:List Cell) (pair:Bool) (e:Expr):e.nneg=true->Den Γ G 49 [(.agg [.t (ti (e).op),.t (ti (e).w),.t (ti (e).n),.t (.sl ((e).kids.map (Expr.enc)))]),.t (.sl (cells.map Cell.enc)),vb pair]=some (vb (e.allE (zxS cells pair))):=by
 induction e using Expr.ind with
 | _ e ih=>
 intro hn;have BV:0<=e.n/\e.kids.length<=3:=by have:=Expr.allE_self hn;simpa using this
 (refine zw3 Γ49 rfl ?_;dsimp only[f49])
 rcases hc:cells[e.n.toNat]? with _ | c
 ·have Co:e.n>=(cells.length:Int):=by rw[List.getElem?_eq_none_iff]at hc;omega
  simp -dsimp only[go_sem,seval]
  repeat'(refine zw1 (fun h=> ?_) (fun h=> ?_)<;>(try simp only[zab]at h)<;>(try simp -dsimp only[go_sem,seval, *]))
  all_goals(try(rw[Expr.allE_eq];simp[zxS, *];done))
  all_goals(
   refine zaq 144112989052600512 e.kids.length (fun i f=>(f 7).v=vi i/\(e.kids.take i).all (Expr.allE (zxS cells pair))=true) rfl rfl ⟨by simp -dsimp only[go_sem,seval],by simp⟩ ?_;rintro i f u kk bb hi ⟨h5,Aa⟩;have hw:=zag i (by omega);simp -dsimp only[go_sem,seval,h5];refine zw1 (fun h=> ?_) (fun h=> ?_)<;>(try simp only[zab]at h)<;>(try simp -dsimp only[go_sem,seval, *])
   ·obtain⟨x,hx,hm⟩:=zad ‹i<e.kids.length›;have hd:=ih x hm (Expr.allE_kid hn hm);simp -dsimp only[go_sem,seval,h5,hx,hd];refine zw1 (fun h=> ?_) (fun h=> ?_)<;>(try simp only[zab]at h)<;>(try simp -dsimp only[go_sem,seval, *])
    ·subst_vars;rw[Expr.allE_eq,za7 hm h];simp
    ·exact⟨by omega,by simp -dsimp only[go_sem,seval,hw],zbH hx Aa h⟩
   ·have:i=e.kids.length:=by omega
    subst this;rw[List.take_length]at Aa
    subst_vars;rw[Expr.allE_eq,Aa];simp[zxS, *])
 ·have Co: ¬e.n>=(cells.length:Int):=by
   have:=(zH.1 hc).1;omega
  simp -dsimp only[go_sem,seval]
  repeat'(refine zw1 (fun h=> ?_) (fun h=> ?_)<;>(try simp only[zab]at h)<;>(try simp -dsimp only[go_sem,seval, *]))
  all_goals(try(rw[Expr.allE_eq];simp[zxS, *];done))
  all_goals(
   refine zaq 144112989052600512 e.kids.length (fun i f=>(f 7).v=vi i/\(e.kids.take i).all (Expr.allE (zxS cells pair))=true) rfl rfl ⟨by simp -dsimp only[go_sem,seval],by simp⟩ ?_;rintro i f u kk bb hi ⟨h5,Aa⟩;have hw:=zag i (by omega);simp -dsimp only[go_sem,seval,h5];refine zw1 (fun h=> ?_) (fun h=> ?_)<;>(try simp only[zab]at h)<;>(try simp -dsimp only[go_sem,seval, *])
   ·obtain⟨x,hx,hm⟩:=zad ‹i<e.kids.length›;have hd:=ih x hm (Expr.allE_kid hn hm);simp -dsimp only[go_sem,seval,h5,hx,hd];refine zw1 (fun h=> ?_) (fun h=> ?_)<;>(try simp only[zab]at h)<;>(try simp -dsimp only[go_sem,seval, *])
    ·subst_vars;rw[Expr.allE_eq,za7 hm h];simp
    ·exact⟨by omega,by simp -dsimp only[go_sem,seval,hw],zbH hx Aa h⟩
   ·have:i=e.kids.length:=by omega
    subst this;rw[List.take_length]at Aa
    subst_vars;rw[Expr.allE_eq,Aa];simp[zxS, *])
theorem zc1 {e:Expr} (h:zxt e=true):0<=e.n:=by
 unfold zxt at h;split at h
 ·simp at h
 ·grind
theorem zlR (d:Nat): ∀e:Expr,e.deep d=true->e.nneg=true:=by
 induction d with
 | zero=>intro e h;simp[Expr.deep]at h
 | succ d ih=>
   intro e h;simp only[Expr.deep,zF,zN]at h;unfold Expr.nneg;rw[Expr.allE_eq];simp only[zF,zN,decide_eq_true_eq];exact⟨⟨zc1 h.1,zbr h.1⟩,fun k hk=>ih k (h.2 k hk)⟩
theorem zBr {e:Expr} (h:e.formed=true):e.nneg=true:=by
 simp only[Expr.formed,zF]at h;exact zlR 40 e h.2
def Expr.valid (e:Expr) (cells:List Cell) (pair:Bool):Bool:=e.formed&&e.allE (zxS cells pair)
theorem zcX (e:Expr) (cells:List Cell) (pair:Bool):Den Γ G 24 [(.agg [.t (ti (e).op),.t (ti (e).w),.t (ti (e).n),.t (.sl ((e).kids.map (Expr.enc)))]),.t (.sl (cells.map Cell.enc)),vb pair]=some (vb (e.valid cells pair)):=by
 (refine zw3 Γ24 rfl ?_;dsimp only[f24])
 have h1:=zd1 e
 by_cases hf:e.formed=true
 ·have h2:=zmL cells pair e (zBr hf);simp -dsimp only[go_sem,seval,h1,h2,hf];simp[Expr.valid,hf]
 ·have hf:e.formed=false:=by simpa using hf
  simp -dsimp only[go_sem,seval,h1,hf];simp[Expr.valid,hf]
theorem zgI (a w:Int) (hw:0<=w/\w<=62):IntKind.i64.wrap ((BitVec.ofInt IntKind.i64.bits a&&& BitVec.ofInt IntKind.i64.bits (2^w.toNat-1)).toNat)=a % 2^w.toNat:=by
 have hp:=zxD w.toNat
 have hb:(BitVec.ofInt 64 a&&& BitVec.ofInt 64 (2^w.toNat-1)).toNat=(a % 2^w.toNat).toNat:=by
  have hk:w.toNat<=62:=by omega
  generalize w.toNat=k at hk
  have e1:(2:Int)^k-1=((2^k-1:Nat):Int):=by
   have:0<2^k:=Nat.pow_pos (by omega);rw[Int.ofNat_sub this];simp
  have Ai:2^k<=2^62:=Nat.pow_le_pow_right (by omega) hk
  have e2:(BitVec.ofInt 64 ((2:Int)^k-1)).toNat=2^k-1:=by
   rw[e1];simp only[BitVec.toNat_ofInt];rw[show(((2^64:Nat):Int))=((2^64:Nat):Int)from rfl,<- Int.natCast_emod,Int.toNat_natCast,Nat.mod_eq_of_lt (by omega)]
  rw[BitVec.toNat_and,e2,Nat.and_two_pow_sub_one_eq_mod,BitVec.toNat_ofInt]
  have hd:(2:Int)^k ∣ ((2^64:Nat):Int):=by
   have:(2:Nat)^k ∣ 2^64:=Nat.pow_dvd_pow 2 (by omega)
   exact_mod_cast this
  have La:0<=a % ((2^64:Nat):Int):=Int.emod_nonneg _ (by omega);have FL:(0:Int)<2^k:=zxD k
  have:(((a % ((2^64:Nat):Int)).toNat % 2^k:Nat):Int)=a % 2^k:=by
   rw[Int.natCast_emod,Int.toNat_of_nonneg La];rw[show((2^k:Nat):Int)=(2:Int)^k by simp];exact Int.emod_emod_of_dvd a hd
  omega
 show IntKind.i64.wrap ((BitVec.ofInt 64 a&&& BitVec.ofInt 64 (2^w.toNat-1)).toNat)=_;rw[hb];have h1:=Int.emod_nonneg a (show(2:Int)^w.toNat≠0 by omega);have h2:=Int.emod_lt_of_pos a hp;have h3:=zcn (i:=w.toNat) (k:=62) (by omega);rw[zaj (by omega)];omega
theorem zeX (n w:Int) (hw:0<=w/\w<=62):Den Γ G 117 [vi n,vi w]=some (vi (n % 2^w.toNat)):=by
 (refine zw3 Γ117 rfl ?_;dsimp only[f117])
 have h1:=zbR w (by omega);have h2:=zcn (i:=w.toNat) (k:=62) (by omega);have h3:=zxD w.toNat;have Cq:IntKind.i64.wrap ((2:Int)^w.toNat-1)=2^w.toNat-1:=zaj (by omega);simp -dsimp only[go_sem,seval,h1,Cq];exact zgI n w hw
def atI (l:List Int) (n:Int):Int:=l.getD n.toNat 0
theorem znW (l:List Int) (n:Int) (hn:0<=n):Den Γ G 118 [.t (ints l),vi n]=some (vi (atI l n)):=by
 (refine zw3 Γ118 rfl ?_;dsimp only[f118])
 rcases hc:l[n.toNat]? with _ | c
 ·have Co: ¬n<(l.length:Int):=by rw[List.getElem?_eq_none_iff]at hc;omega
  simp -dsimp only[go_sem,seval,Co];simp[atI,List.getD,hc]
 ·have Co:n<(l.length:Int):=by have:=(zH.1 hc).1;omega
  simp -dsimp only[go_sem,seval,Co,hn,hc];simp[atI,List.getD,hc]
theorem zcw {a:Int} (h:0<=a/\a<2^62):(BitVec.ofInt 64 a).toNat=a.toNat:=by
 simp only[BitVec.toNat_ofInt];omega
theorem zhO {a b:Int} (ha:0<=a/\a<2^62) (hb:0<=b/\b<2^62):IntKind.i64.wrap ((BitVec.ofInt IntKind.i64.bits a&&& BitVec.ofInt IntKind.i64.bits b).toNat)=((a.toNat&&& b.toNat:Nat):Int):=by
 show IntKind.i64.wrap ((BitVec.ofInt 64 a&&& BitVec.ofInt 64 b).toNat)=_;rw[BitVec.toNat_and,zcw ha,zcw hb];have:a.toNat&&& b.toNat<=a.toNat:=Nat.and_le_left;exact zaj (by omega)
theorem zi4 {a b:Int} (ha:0<=a/\a<2^62) (hb:0<=b/\b<2^62):IntKind.i64.wrap ((BitVec.ofInt IntKind.i64.bits a ||| BitVec.ofInt IntKind.i64.bits b).toNat)=((a.toNat ||| b.toNat:Nat):Int):=by
 show IntKind.i64.wrap ((BitVec.ofInt 64 a ||| BitVec.ofInt 64 b).toNat)=_;rw[BitVec.toNat_or,zcw ha,zcw hb];have:a.toNat ||| b.toNat<2^62:=Nat.or_lt_two_pow (by omega) (by omega);exact zaj (by omega)
theorem zgN {a b:Int} (ha:0<=a/\a<2^62) (hb:0<=b/\b<2^62):IntKind.i64.wrap ((BitVec.ofInt IntKind.i64.bits a^^^ BitVec.ofInt IntKind.i64.bits b).toNat)=((a.toNat^^^ b.toNat:Nat):Int):=by
 show IntKind.i64.wrap ((BitVec.ofInt 64 a^^^ BitVec.ofInt 64 b).toNat)=_;rw[BitVec.toNat_xor,zcw ha,zcw hb];have:a.toNat^^^ b.toNat<2^62:=Nat.xor_lt_two_pow (by omega) (by omega);exact zaj (by omega)
def opv (op w a b c:Int):Int:=
 if op=4 then 2^w.toNat-1-a
 else if op=5 then((a.toNat&&& b.toNat:Nat):Int)
 else if op=6 then((a.toNat ||| b.toNat:Nat):Int)
 else if op=7 then((a.toNat^^^ b.toNat:Nat):Int)
 else if op=8 then(a+b) % 2^w.toNat
 else if op=9 then(a-b) % 2^w.toNat
 else if op=10 then a*b % 2^w.toNat
 else if op=11 then(if a=b then 1 else 0)
 else if op=12 then(if a<b then 1 else 0)
 else if op=13 then(if a<=b then 1 else 0)
 else(if a=1 then b else c)
def zle (e:Expr) (v:List Int):Prop:=zxt e=true/\v.length=e.kids.length/\(∀x∈v,0<=x/\x<256)/\(e.op=14->v.getD 0 0=0\/v.getD 0 0=1)
def zDt (e:Expr) (v:List Int):Int:=if e.op=1 then e.n else opv e.op e.w (v.getD 0 0) (v.getD 1 0) (v.getD 2 0)
set_option maxHeartbeats 2000000 in
theorem zl1 (e:Expr) (v:List Int) (h:zle e v) (LJ:e.op≠2/\e.op≠3):Den Γ G 119 [(.agg [.t (ti (e).op),.t (ti (e).w),.t (ti (e).n),.t (.sl ((e).kids.map (Expr.enc)))]),.t (ints v)]=some (vi (zDt e v)):=by
 obtain⟨hn,hl,hv,Ca⟩:=h;obtain⟨op,w,n,ks⟩:=e;simp only[Expr.op_mk,Expr.kids_mk]at *
 have hk:zyl op=(ks.length:Int):=by
  unfold zxt at hn;simp only[Expr.op_mk,Expr.kids_mk]at hn;grind
 have hw:1<=w/\w<=8:=by
  unfold zxt at hn;simp only[Expr.w_mk]at hn;grind
 have hp:=zbR w (by omega);have PK:(2:Int)^w.toNat<=2^8:=zcn (by omega);have Mz:=zxD w.toNat
 (refine zw3 Γ119 rfl ?_;dsimp only[f119])
 rcases zbZ op with rfl | rfl | rfl | rfl | rfl | rfl | rfl | rfl | rfl | rfl | rfl | rfl | rfl | rfl | Ao
 rotate_right
 ·rw[zbV Ao]at hk;omega
 all_goals(try(exfalso;simp at LJ;done))
 all_goals(
  rcases v with _ | ⟨a,_ | ⟨b,_ | ⟨c,_ | ⟨d,r⟩⟩⟩⟩
  all_goals(try(exfalso;simp[zyl]at hk hl;(try omega);done)))
 all_goals(try(have ha:=hv a (by simp)))
 all_goals(try(have hb:=hv b (by simp)))
 all_goals(try(have hc:=hv c (by simp)))
 all_goals(try(have OU:=zeX (a+b) w (by omega)))
 all_goals(try(have NR:=zeX (a-b+2^w.toNat) w (by omega)))
 all_goals(try(have NQ:=zeX (a*b) w (by omega)))
 all_goals(try(have Kn:0<=a*b/\a*b<=65536:=⟨Int.mul_nonneg ha.1 hb.1,by
  have h1:a*b<=256*b:=Int.mul_le_mul_of_nonneg_right (by omega) hb.1
  omega⟩))
 all_goals(try(have Cq:IntKind.i64.wrap (a+b)=a+b:=zaj (by omega)))
 all_goals(try(have C4:IntKind.i64.wrap (a-b)=a-b:=zaj (by omega)))
 all_goals(try(have HP:IntKind.i64.wrap (a-b+2^w.toNat)=a-b+2^w.toNat:=zaj (by omega)))
 all_goals(try(have NC:IntKind.i64.wrap (a*b)=a*b:=zaj (by omega)))
 all_goals(try(have PF:IntKind.i64.wrap (2^w.toNat-1)=2^w.toNat-1:=zaj (by omega)))
 all_goals(try(have PE:IntKind.i64.wrap (2^w.toNat-1-a)=2^w.toNat-1-a:=zaj (by omega)))
 all_goals(try(have PD:IntKind.i64.wrap (2-a)=2-a:=zaj (by omega)))
 all_goals(try(have KV:=zhO (a:=a) (b:=b) (by omega) (by omega)))
 all_goals(try(have EX:=zi4 (a:=a) (b:=b) (by omega) (by omega)))
 all_goals(try(have J9:=zgN (a:=a) (b:=b) (by omega) (by omega)))
 all_goals(try(rcases Ca rfl with Ca | Ca<;>simp only[List.getD_cons_zero]at Ca<;>subst Ca))
 all_goals simp -dsimp only[go_sem,seval, *]
 all_goals repeat'(refine zw1 (fun h=> ?_) (fun h=> ?_)<;>(try simp only[zab]at h)<;>(try simp -dsimp only[go_sem,seval, *]))
 all_goals(try(simp[zDt,opv,go_sem, *];done))
 all_goals(try(simp only[zDt,opv,go_sem];grind))
end Rg
end
section
-- FULL
-- APPS
namespace Rg
open Go
namespace Expr
mutual
def ev (old now:List Int):Expr->Int
 | .mk op w n ks=>if op=1 then n else if op=2 then atI now n % 2^w.toNat else if op=3 then atI old n % 2^w.toNat
   else opv op w ((evs old now ks).getD 0 0) ((evs old now ks).getD 1 0) ((evs old now ks).getD 2 0)
def evs (old now:List Int):List Expr->List Int
 | []=>[]
 | e::r=>ev old now e::evs old now r
end
theorem znQ (old now:List Int): ∀l:List Expr,evs old now l=l.map (ev old now)
 | []=>rfl
 | e::r=>by rw[evs,znQ old now r];rfl
theorem ev_eq (old now:List Int) (e:Expr):ev old now e=if e.op=1 then e.n else if e.op=2 then atI now e.n % 2^e.w.toNat else if e.op=3 then atI old e.n % 2^e.w.toNat
 else opv e.op e.w ((e.kids.map (ev old now)).getD 0 0) ((e.kids.map (ev old now)).getD 1 0) ((e.kids.map (ev old now)).getD 2 0):=by
 cases e;simp only[ev,znQ,op,w,n,kids];rfl
end Expr
theorem zxO {d:Nat} {e:Expr} (h:e.deep d=true):zxt e=true:=by
 cases d with
 | zero=>simp[Expr.deep]at h
 | succ d=>simp only[Expr.deep,zF]at h;exact h.1
theorem zx9 {d:Nat} {e k:Expr} (h:e.deep (d+1)=true) (hk:k∈e.kids):k.deep d=true:=by
 simp only[Expr.deep,zF,zN]at h;exact h.2 k hk
theorem zhh {e:Expr} (h:zxt e=true):1<=e.w/\e.w<=8:=by
 unfold zxt at h;grind
theorem za8 {e:Expr} (h:zxt e=true):zyl e.op=(e.kids.length:Int):=by
 unfold zxt at h;grind
theorem zl3 {a b:Nat} {k:Nat} (ha:a<2^k):a&&& b<2^k:=Nat.lt_of_le_of_lt Nat.and_le_left ha
theorem zeC (old now:List Int) (d:Nat): ∀e:Expr,e.deep d=true->0<=e.ev old now/\e.ev old now<2^e.w.toNat:=by
 induction d with
 | zero=>intro e h;simp[Expr.deep]at h
 | succ d ih=>
   intro e h;have hn:=zxO h;have hw:=zhh hn;have ha:=za8 hn;have hk: ∀k∈e.kids,0<=k.ev old now/\k.ev old now<2^k.w.toNat:=fun k hk=>ih k (zx9 h hk)
   have Mz:=zxD e.w.toNat;have Es:(2:Int)<=2^e.w.toNat:=by have:=zcn (i:=1) (k:=e.w.toNat) (by omega);simpa using this
   rw[Expr.ev_eq];obtain⟨op,w,n,ks⟩:=e;simp only[Expr.op_mk,Expr.w_mk,Expr.n_mk,Expr.kids_mk]at *;have hm: ∀a:Int,0<=a % 2^w.toNat/\a % 2^w.toNat<2^w.toNat:=fun a=>⟨Int.emod_nonneg _ (by omega),Int.emod_lt_of_pos _ Mz⟩
   have Oc:((2^w.toNat:Nat):Int)=2^w.toNat:=by simp
   rcases zbZ op with rfl | rfl | rfl | rfl | rfl | rfl | rfl | rfl | rfl | rfl | rfl | rfl | rfl | rfl | Ao
   rotate_right
   ·rw[zbV Ao]at ha;omega
   all_goals(
    rcases ks with _ | ⟨a,_ | ⟨b,_ | ⟨c,_ | ⟨d,r⟩⟩⟩⟩
    all_goals(try(exfalso;simp[zyl]at ha;(try omega);done)))
   all_goals(try(have Ec:=hk a (by simp)))
   all_goals(try(have CV:=hk b (by simp)))
   all_goals(try(have Dx:=hk c (by simp)))
   all_goals simp[zxt,Expr.kw,go_sem,zyl]at hn
   all_goals simp[opv,go_sem]
   ·exact of_decide_eq_true hn.2
   ·exact hm _
   ·exact hm _
   ·rw[hn.2.2]at Ec;omega
   ·rw[hn.2.2.1]at Ec;have:=zl3 (b:=(b.ev old now).toNat) (k:=w.toNat) (show(a.ev old now).toNat<2^w.toNat by omega);omega
   ·rw[hn.2.2.1]at Ec;rw[hn.2.2.2]at CV;have:=Nat.or_lt_two_pow (n:=w.toNat) (x:=(a.ev old now).toNat) (y:=(b.ev old now).toNat) (by omega) (by omega);omega
   ·rw[hn.2.2.1]at Ec;rw[hn.2.2.2]at CV;have:=Nat.xor_lt_two_pow (n:=w.toNat) (x:=(a.ev old now).toNat) (y:=(b.ev old now).toNat) (by omega) (by omega);omega
   ·exact hm _
   ·exact hm _
   ·exact hm _
   ·split<;>omega
   ·split<;>omega
   ·split<;>omega
   ·rw[hn.2.2.2.1]at CV;rw[hn.2.2.2.2]at Dx;split<;>omega
theorem zBA {d:Nat} {e:Expr} (old now:List Int) (h:e.deep (d+1)=true):zle e (e.kids.map (Expr.ev old now)):=by
 have hn:=zxO h;refine⟨hn,by simp,?_,?_⟩
 ·intro x hx;obtain⟨k,hk,rfl⟩:=List.mem_map.1 hx;have h1:=zeC old now d k (zx9 h hk);have h2:=zhh (zxO (zx9 h hk));have h3:=zcn (i:=k.w.toNat) (k:=8) (by omega);omega
 ·intro Ca;have ha:=za8 hn;obtain⟨op,w,n,ks⟩:=e;simp only[Expr.op_mk,Expr.kids_mk]at *;subst Ca;rcases ks with _ | ⟨a,_ | ⟨b,_ | ⟨c,_ | ⟨d,r⟩⟩⟩⟩
  all_goals(try(exfalso;simp[zyl]at ha;(try omega);done))
  have h1:=zeC old now _ a (zx9 h (by simp[Expr.kids_mk]));simp[zxt,Expr.kw,go_sem,zyl]at hn;rw[hn.2.2.1,show(2:Int)^(Int.toNat 1)=2 from rfl]at h1;show _\/_;simp only[List.map_cons,List.getD_cons_zero];omega
theorem zoQ {e:Expr} (old now:List Int) (LJ:e.op≠2/\e.op≠3):zDt e (e.kids.map (Expr.ev old now))=e.ev old now:=by
 rw[Expr.ev_eq,zDt,if_neg LJ.1,if_neg LJ.2]
set_option maxHeartbeats 2000000 in
theorem zkk (old now:List Int) (d:Nat): ∀e:Expr,e.deep d=true->Den Γ G 90 [(.agg [.t (ti (e).op),.t (ti (e).w),.t (ti (e).n),.t (.sl ((e).kids.map (Expr.enc)))]),.t (ints old),.t (ints now)]=some (vi (e.ev old now)):=by
 induction d with
 | zero=>intro e h;simp[Expr.deep]at h
 | succ d ih=>
   intro e h;have hn:=zxO h;have hw:=zhh hn;have BV:=zc1 hn;have ha:=za8 hn;have Ea:=zbr hn
   (refine zw3 Γ90 rfl ?_;dsimp only[f90])
   by_cases h2:e.op=2
   ·have h3:=znW now e.n BV;have h4:=zeX (atI now e.n) e.w (by omega);simp -dsimp [go_sem,zyh,h2,h3,h4];rw[Expr.ev_eq,if_neg (by omega),if_pos h2]
   ·by_cases h3:e.op=3
    ·have BZ:=znW old e.n BV;have h4:=zeX (atI old e.n) e.w (by omega);simp -dsimp [go_sem,zyh,h3,BZ,h4];rw[Expr.ev_eq,if_neg (by omega),if_neg h2,if_pos h3]
    ·have Fp:=zl1 e (e.kids.map (Expr.ev old now)) (zBA old now h) ⟨h2,h3⟩;rw[zoQ old now ⟨h2,h3⟩]at Fp;have hk: ∀k∈e.kids,Den Γ G 90 [(.agg [.t (ti (k).op),.t (ti (k).w),.t (ti (k).n),.t (.sl ((k).kids.map (Expr.enc)))]),.t (ints old),.t (ints now)]=some (vi (k.ev old now)):=fun k hk=>ih k (zx9 h hk)
     simp -dsimp [go_sem,zyh,h2,h3]
     generalize he:e.kids=ks at *
     rcases ks with _ | ⟨a,_ | ⟨b,_ | ⟨c,_ | ⟨d,r⟩⟩⟩⟩
     ·simp only[ints,List.map_nil]at Fp;refine zai ?_;simp -dsimp [go_sem,zyh,he,Fp]
     ·have Ec:=hk a (by simp);simp only[ints,List.map_nil,List.map_cons,Expr.enc_eq]at Fp;refine zai ?_;simp -dsimp [go_sem,zyh,he,Ec];refine zai ?_;simp -dsimp [go_sem,zyh,he,Fp]
     ·have Ec:=hk a (by simp);have CV:=hk b (by simp);simp only[ints,List.map_nil,List.map_cons,Expr.enc_eq]at Fp;refine zai ?_;simp -dsimp [go_sem,zyh,he,Ec];refine zai ?_;simp -dsimp [go_sem,zyh,he,CV];refine zai ?_;simp -dsimp [go_sem,zyh,he,Fp]
     ·have Ec:=hk a (by simp);have CV:=hk b (by simp);have Dx:=hk c (by simp);simp only[ints,List.map_nil,List.map_cons,Expr.enc_eq]at Fp;refine zai ?_;simp -dsimp [go_sem,zyh,he,Ec];refine zai ?_;simp -dsimp [go_sem,zyh,he,CV];refine zai ?_;simp -dsimp [go_sem,zyh,he,Dx];refine zai ?_;simp -dsimp [go_sem,zyh,he,Fp]
     ·exfalso;simp at Ea
def Expr.eval (e:Expr) (old now:List Int):Int:=if e.formed then e.ev old now else 0
theorem zxk {e:Expr} (h:e.formed=true):e.deep 40=true:=by
 simp only[Expr.formed,zF]at h;exact h.2
theorem ze9 (e:Expr) (old now:List Int):Den Γ G 69 [(.agg [.t (ti (e).op),.t (ti (e).w),.t (ti (e).n),.t (.sl ((e).kids.map (Expr.enc)))]),.t (ints old),.t (ints now)]=some (vi (e.eval old now)):=by
 (refine zw3 Γ69 rfl ?_;dsimp only[f69])
 have h1:=zd1 e
 by_cases hf:e.formed=true
 ·have h2:=zkk old now 40 e (zxk hf);simp -dsimp [go_sem,zyh,h1,h2,hf];simp[Expr.eval,hf]
 ·have hf:e.formed=false:=by simpa using hf
  simp -dsimp [go_sem,zyh,h1,hf];simp[Expr.eval,hf]
theorem zlS (n w:Int):Den Γ G 61 [vi n,vi w]=some (.agg [.t (ti (Expr.mk 1 w n []).op),.t (ti (Expr.mk 1 w n []).w),.t (ti (Expr.mk 1 w n []).n),.t (.sl ((Expr.mk 1 w n []).kids.map (Expr.enc)))]):=by
 (refine zw3 Γ61 rfl ?_;dsimp only[f61])
 simp -dsimp [go_sem,zyh,List.map_nil,and_self]
end Rg
end
section
namespace Rg
open Go
theorem zf9 (ks:List Expr) (ws:List Int) (hl:ws.length<=3):Den Γ G 91 [.t (.sl (ks.map Expr.enc)),.t (ints ws)]=some (vb (decide (ks.map Expr.w=ws))):=by
 (refine zw3 Γ91 rfl ?_;dsimp only[f91])
 simp -dsimp only[go_sem,seval];refine zw1 (fun h=> ?_) (fun h=> ?_)<;>(try simp only[zab]at h)<;>(try simp -dsimp only[go_sem,seval, *])
 ·have : ¬ks.map Expr.w=ws:=fun he=>by have:=congrArg List.length he;simp at this;omega
  simp[this]
 ·have Ac:ks.length=ws.length:=by omega
  refine zaq 134201456 ws.length (fun i f=>(f 14).v=vi i/\(ks.take i).map Expr.w=ws.take i) rfl rfl ⟨by simp -dsimp only[go_sem,seval],by simp⟩ ?_;rintro i f u kk bb hi ⟨Ca,ht⟩;have hw:=zag i (by omega);simp -dsimp only[go_sem,seval,Ca];refine zw1 (fun h=> ?_) (fun h=> ?_)<;>(try simp only[zab]at h)<;>(try simp -dsimp only[go_sem,seval, *])
  ·have hx:ws[i]? =some ws[i]:=zI (by omega);have hy:ks[i]? =some ks[i]:=zI (by omega);simp -dsimp only[go_sem,seval,Ca,hx,hy];refine zw1 (fun h=> ?_) (fun h=> ?_)<;>(try simp only[zab]at h)<;>(try simp -dsimp only[go_sem,seval, *])
   ·have : ¬ks.map Expr.w=ws:=fun he=>by
     have:=congrArg (fun l=>l[i]?) he;simp only[zJ,hx,hy,Option.map_some,zA]at this;contradiction
    simp[this]
   ·refine⟨by omega,by simp -dsimp only[go_sem,seval,hw],?_⟩;rw[zac hx,zac hy,List.map_append,ht];simp[h]
  ·have:i=ws.length:=by omega
   subst this;rw[List.take_length,<- Ac,List.take_length]at ht;simp[ht]
@[go_sem]theorem G_0:G 0=[ti 0,ti 1,ti 3,ti 7,ti 15,ti 31,ti 63,ti 127,ti 255]:=rfl
theorem zbJ {w:Int} (h:1<=w/\w<=8):w=1\/w=2\/w=3\/w=4\/w=5\/w=6\/w=7\/w=8:=by omega
theorem zhN {op:Int} (h:5<=op/\op<=13):zyl op=2:=by unfold zyl;grind
theorem zcg (op w n:Int) (ks:List Expr):zxt (.mk op w n ks)=
 if zyl op≠ks.length\/w<1\/w>8 then false
 else if op=1 then decide (0<=n/\n<2^w.toNat)
 else if op=2\/op=3 then decide (0<=n/\n<32)
 else if op=4 then decide (n=0/\(Expr.mk op w n ks).kw 0=w)
 else if op=11\/op=12\/op=13 then decide (n=0/\w=1/\(Expr.mk op w n ks).kw 0=(Expr.mk op w n ks).kw 1)
 else if op=14 then decide (n=0/\(Expr.mk op w n ks).kw 0=1/\(Expr.mk op w n ks).kw 1=w/\(Expr.mk op w n ks).kw 2=w)
 else decide (n=0/\(Expr.mk op w n ks).kw 0=w/\(Expr.mk op w n ks).kw 1=w):=rfl
theorem zoX (op w n:Int) (a:Expr) (r:List Expr):(Expr.mk op w n (a::r)).kw 0=a.w:=rfl
theorem zpJ (op w n:Int) (a b:Expr) (r:List Expr):(Expr.mk op w n (a::b::r)).kw 1=b.w:=rfl
theorem ztK (op w n:Int) (a b c:Expr) (r:List Expr):(Expr.mk op w n (a::b::c::r)).kw 2=c.w:=rfl
theorem zaR {op w n:Int} {ks:List Expr} (h:5<=op/\op<=10) (hw:1<=w/\w<=8):zxt (.mk op w n ks)=decide (n=0/\ks.map Expr.w=[w,w]):=by
 rw[zcg,zhN (show 5<=op/\op<=13 by omega),if_neg (show ¬op=1 by omega),if_neg (show ¬(op=2\/op=3)by omega),if_neg (show ¬op=4 by omega),if_neg (show ¬(op=11\/op=12\/op=13)by omega),if_neg (show ¬op=14 by omega)];rcases ks with _ | ⟨a,_ | ⟨b,_ | ⟨c,r⟩⟩⟩
 ·rw[if_pos (by simp)];simp
 ·rw[if_pos (by simp)];simp
 ·rw[if_neg (by simp;omega),zoX,zpJ];simp
 ·rw[if_pos (by simp;omega)];simp
theorem zbI {op w n:Int} {ks:List Expr} (h:11<=op/\op<=13) (hw:1<=w/\w<=8):zxt (.mk op w n ks)=decide (n=0/\w=1/\ks.length=2/\(Expr.mk op w n ks).kw 0=(Expr.mk op w n ks).kw 1):=by
 rw[zcg,zhN (show 5<=op/\op<=13 by omega),if_neg (show ¬op=1 by omega),if_neg (show ¬(op=2\/op=3)by omega),if_neg (show ¬op=4 by omega),if_pos (show(op=11\/op=12\/op=13)by omega)]
 by_cases hl:ks.length=2
 ·rw[if_neg (by omega)];simp[hl]
 ·rw[if_pos (by omega)];simp[hl]
theorem zfM {w n:Int} {ks:List Expr} (hw:1<=w/\w<=8):zxt (.mk 4 w n ks)=decide (n=0/\ks.map Expr.w=[w]):=by
 rw[zcg,show zyl 4=1 from rfl,if_neg (show ¬(4:Int)=1 by omega),if_neg (show ¬((4:Int)=2\/(4:Int)=3)by omega),if_pos rfl];rcases ks with _ | ⟨a,_ | ⟨b,r⟩⟩
 ·rw[if_pos (by simp)];simp
 ·rw[if_neg (by simp;omega),zoX];simp
 ·rw[if_pos (by simp;omega)];simp
theorem zfN {w n:Int} {ks:List Expr} (hw:1<=w/\w<=8):zxt (.mk 14 w n ks)=decide (n=0/\ks.map Expr.w=[1,w,w]):=by
 rw[zcg,show zyl 14=3 from rfl,if_neg (show ¬(14:Int)=1 by omega),if_neg (show ¬((14:Int)=2\/(14:Int)=3)by omega),if_neg (show ¬(14:Int)=4 by omega),if_neg (show ¬((14:Int)=11\/(14:Int)=12\/(14:Int)=13)by omega),if_pos rfl];rcases ks with _ | ⟨a,_ | ⟨b,_ | ⟨c,_ | ⟨d,r⟩⟩⟩⟩
 ·rw[if_pos (by simp)];simp
 ·rw[if_pos (by simp)];simp
 ·rw[if_pos (by simp)];simp
 ·rw[if_neg (by simp;omega),zoX,zpJ,ztK];simp
 ·rw[if_pos (by simp;omega)];simp
theorem zcp {op w n:Int} {ks:List Expr} (h:1<=op/\op<=3) (hw:1<=w/\w<=8):zxt (.mk op w n ks)=decide (ks.length=0/\0<=n/\(if op=1 then n<2^w.toNat else n<32)):=by
 have ha:zyl op=0:=by unfold zyl;rw[if_pos h]
 rw[zcg,ha]
 by_cases hl:ks.length=0
 ·rw[if_neg (by omega)]
  by_cases h1:op=1
  ·simp[h1,hl]
  ·rw[if_neg h1,if_pos (by omega)];simp[h1,hl]
 ·rw[if_pos (by omega)];simp[hl]
theorem zfO {op w n:Int} {ks:List Expr} (h:op<1\/14<op):zxt (.mk op w n ks)=false:=by
 rw[zcg,zbV h,if_pos (by omega)]
theorem zkZ {op w n:Int} {ks:List Expr} (h: ¬(1<=op/\op<=3)) (hw:1<=w/\w<=8) (hn: ¬n=0):zxt (.mk op w n ks)=false:=by
 rcases zbZ op with rfl | rfl | rfl | rfl | rfl | rfl | rfl | rfl | rfl | rfl | rfl | rfl | rfl | rfl | Ao
 ·omega
 ·omega
 ·omega
 ·rw[zfM hw];simp[hn]
 ·rw[zaR (by omega) hw];simp[hn]
 ·rw[zaR (by omega) hw];simp[hn]
 ·rw[zaR (by omega) hw];simp[hn]
 ·rw[zaR (by omega) hw];simp[hn]
 ·rw[zaR (by omega) hw];simp[hn]
 ·rw[zaR (by omega) hw];simp[hn]
 ·rw[zbI (by omega) hw];simp[hn]
 ·rw[zbI (by omega) hw];simp[hn]
 ·rw[zbI (by omega) hw];simp[hn]
 ·rw[zfN hw];simp[hn]
 ·exact zfO Ao
set_option maxHeartbeats 4000000 in
theorem zjC (e:Expr):Den Γ G 71 [.t (.ip [ti e.op,ti e.w,ti e.n,.sl (e.kids.map Expr.enc)])]=some (vb (zxt e)):=by
 obtain⟨op,w,n,ks⟩:=e;simp only[Expr.op_mk,Expr.w_mk,Expr.n_mk,Expr.kids_mk]
 (refine zw3 Γ71 rfl ?_;dsimp only[f71])
 by_cases hw:1<=w/\w<=8
 ·have h1: ¬w<1:=by omega
  have h2: ¬w>8:=by omega
  have Jx:=zf9 ks [w] (by simp);have GY:=zf9 ks [w,w] (by simp);have L6:=zf9 ks [1,w,w] (by simp);simp only[ints,List.map_cons,List.map_nil]at Jx GY L6
  by_cases DG:op=1
  ·subst DG;rw[zcp (by omega) hw];clear Jx GY L6;rcases zbJ hw with rfl | rfl | rfl | rfl | rfl | rfl | rfl | rfl
   all_goals(
    simp -dsimp only[go_sem,seval]
    repeat'(refine zw1 (fun h=> ?_) (fun h=> ?_)<;>(try simp only[zab]at h)<;>(try simp -dsimp only[go_sem,seval, *]))
    all_goals((try simp only[Int.reduceToNat,Int.reducePow,Int.reduceEq,reduceIte]);first | exact(decide_eq_false (by omega)).symm | (simp;done) | (apply decide_eq_decide.2;omega)))
  ·by_cases Iz:op=2\/op=3
   ·rw[zcp (by omega) hw];clear Jx GY L6;rcases Iz with rfl | rfl
    all_goals(
     simp -dsimp only[go_sem,seval,h1,h2]
     repeat'(refine zw1 (fun h=> ?_) (fun h=> ?_)<;>(try simp only[zab]at h)<;>(try simp -dsimp only[go_sem,seval, *]))
     all_goals((try simp only[Int.reduceEq,reduceIte]);first | exact(decide_eq_false (by omega)).symm | (simp;done) | (apply decide_eq_decide.2;omega)))
   ·have e1: ¬op=2:=by omega
    have e2: ¬op=3:=by omega
    by_cases hn:n=0
    ·rcases zbZ op with rfl | rfl | rfl | rfl | rfl | rfl | rfl | rfl | rfl | rfl | rfl | rfl | rfl | rfl | Ao
     ·omega
     ·omega
     ·omega
     ·rw[zfM hw];simp -dsimp only[go_sem,seval,h1,h2,hn,Jx]
     ·rw[zaR (by omega) hw];simp -dsimp only[go_sem,seval,h1,h2,hn,GY]
     ·rw[zaR (by omega) hw];simp -dsimp only[go_sem,seval,h1,h2,hn,GY]
     ·rw[zaR (by omega) hw];simp -dsimp only[go_sem,seval,h1,h2,hn,GY]
     ·rw[zaR (by omega) hw];simp -dsimp only[go_sem,seval,h1,h2,hn,GY]
     ·rw[zaR (by omega) hw];simp -dsimp only[go_sem,seval,h1,h2,hn,GY]
     ·rw[zaR (by omega) hw];simp -dsimp only[go_sem,seval,h1,h2,hn,GY]
     ·rw[zbI (by omega) hw];rcases ks with _ | ⟨a,_ | ⟨b,_ | ⟨c,r⟩⟩⟩
      all_goals(
       simp -dsimp only[go_sem,seval,h1,h2,hn]
       repeat'(refine zw1 (fun h=> ?_) (fun h=> ?_)<;>(try simp only[zab]at h)<;>(try simp -dsimp only[go_sem,seval, *]))
       all_goals(simp[zoX,zpJ, *])
       all_goals(first | rfl | omega))
     ·rw[zbI (by omega) hw];rcases ks with _ | ⟨a,_ | ⟨b,_ | ⟨c,r⟩⟩⟩
      all_goals(
       simp -dsimp only[go_sem,seval,h1,h2,hn]
       repeat'(refine zw1 (fun h=> ?_) (fun h=> ?_)<;>(try simp only[zab]at h)<;>(try simp -dsimp only[go_sem,seval, *]))
       all_goals(simp[zoX,zpJ, *])
       all_goals(first | rfl | omega))
     ·rw[zbI (by omega) hw];rcases ks with _ | ⟨a,_ | ⟨b,_ | ⟨c,r⟩⟩⟩
      all_goals(
       simp -dsimp only[go_sem,seval,h1,h2,hn]
       repeat'(refine zw1 (fun h=> ?_) (fun h=> ?_)<;>(try simp only[zab]at h)<;>(try simp -dsimp only[go_sem,seval, *]))
       all_goals(simp[zoX,zpJ, *])
       all_goals(first | rfl | omega))
     ·rw[zfN hw];simp -dsimp only[go_sem,seval,h1,h2,hn,L6]
     ·rw[zfO Ao];have n1: ¬op=4:=by omega
      have n2: ¬op=5:=by omega
      have n3: ¬op=6:=by omega
      have n4: ¬op=7:=by omega
      have n5: ¬op=8:=by omega
      have n6: ¬op=9:=by omega
      have n7: ¬op=10:=by omega
      have n8: ¬op=11:=by omega
      have n9: ¬op=12:=by omega
      have n10: ¬op=13:=by omega
      have n11: ¬op=14:=by omega
      simp -dsimp only[go_sem,seval,h1,h2,hn,DG,e1,e2,n1,n2,n3,n4,n5,n6,n7,n8,n9,n10,n11]
    ·rw[zkZ (by omega) hw hn];simp -dsimp only[go_sem,seval,h1,h2,DG,e1,e2,hn]
 ·by_cases h1:w<1
  ·simp -dsimp only[go_sem,seval,h1];simp only[zxt,go_sem];grind
  ·have h2:w>8:=by omega
   simp -dsimp only[go_sem,seval,h1,h2];simp only[zxt,go_sem];grind
end Rg
end
section
namespace Rg
open Go
theorem zdy {α:Type} (f:Nat->α) (i:Nat) (v w:α):updC (updC f i v) i w=updC f i w:=by
 rw[zal];funext j;unfold upd;split<;>rfl
def zsF (h:Nat->Option O) (kc:Nat) (v:V) (e:Expr):Prop:=
 v= .t (.ip [ti e.op,ti e.w,ti e.n,.sl (e.kids.map Expr.enc)])\/
 ∃k fz,v= .mp k 0 0/\k≠kc/\h k=some (.rows 4 [[.t (ti e.op),.t (ti e.w),.t (ti e.n),.t (.sl (e.kids.map Expr.enc))]] fz)
theorem zB1 (d:Nat): ∀(e:Expr) (v:V) (c:Int) (H:Nat->Option O) (n kc kv:Nat) (fz:Bool),
 d<=40->zsF H kc v e->0<=c->c<=600->kv≠kc->H kc=some (.rows 1 [[vi c]] false)->H kv=some (.rows 1 [[.fn 70 [] [.mp kc 0 0,.mp kv 0 0]]] fz)->
 ∃r h' n',DenR Γ G 70 [v,vi (41-d),.mp kc 0 0,.mp kv 0 0] H n=some (r,h',n')/\
  r=vb (e.deep d&&decide (c+e.size<=600))/\ ∃c':Int,h'=updC H kc (some (.rows 1 [[vi c']] false))/\(e.deep d=true->c+e.size<=600->c'=c+e.size):=by
 induction d with
 | zero=>
   intro e v c H n kc kv fz hd hv CM hc A8 Dx Eu
   (refine zxC Γ70 rfl ?_;dsimp only[f70])
   have hw:IntKind.i64.wrap (c+1)=c+1:=zaj (by omega);have IR:(41-((0:Nat):Int))>40:=by omega
   rcases hv with rfl | ⟨k,fk,rfl,hk,A7⟩
   all_goals(
    simp -dsimp only[go_sem,seval,Dx,hw,IR]
    repeat'(refine zw1 (fun h=> ?_) (fun h=> ?_)<;>(try simp only[zab]at h)<;>(try simp -dsimp only[go_sem,seval, *]))
    all_goals(exact⟨by simp -dsimp only[go_sem,seval,Expr.deep,Bool.false_and],c+1,by simp -dsimp only[go_sem,seval],by simp[Expr.deep]⟩))
 | succ d ih=>
   intro e v c H n kc kv fz hd hv CM hc A8 Dx Eu
   (refine zxC Γ70 rfl ?_;dsimp only[f70])
   have hw:IntKind.i64.wrap (c+1)=c+1:=zaj (by omega);have IR: ¬(41-((d+1:Nat):Int))>40:=by omega
   have C4:IntKind.i64.wrap (41-((d+1:Nat):Int)+1)=41-(d:Int):=by rw[zaj (by omega)];omega
   have Bj:=zjC e;have AM:=Expr.size_eq e;have Cx:=Expr.size_pos e;rcases hv with rfl | ⟨k,fk,rfl,hk,A7⟩
   all_goals(
    have CK:=hw
    (try have CK:=hk)
    simp -dsimp only[go_sem,seval,Dx,hw,IR];refine zw1 (fun h=> ?_) (fun h=> ?_)<;>(try simp only[zab]at h)<;>(try simp -dsimp only[go_sem,seval, *])
    ·refine⟨?_,c+1,by simp -dsimp only[go_sem,seval],fun _ A4=>by omega⟩;simp -dsimp only[go_sem,seval];have : ¬(c+(e.size:Int)<=600):=by omega
     simp[this]
    ·refine zw1 (fun h=> ?_) (fun h=> ?_)<;>(try simp only[zab]at h)<;>(try simp -dsimp only[go_sem,seval, *])
     ·refine⟨?_,c+1,by simp -dsimp only[go_sem,seval],fun L5=>by rw[zxO L5]at h;simp at h⟩;simp -dsimp only[go_sem,seval];simp[Expr.deep,h]
     ·have Ac:=zbr h
      refine zap 2198956146880 e.kids.length (fun i f hh x=>(f 26).v=vi i/\ ∃c':Int,hh=updC H kc (some (.rows 1 [[vi c']] false))/\c'=c+1+((e.kids.take i).map Expr.size).sum/\c'<=600/\(e.kids.take i).all (Expr.deep d)=true) rfl
       ⟨by simp -dsimp only[go_sem,seval],c+1,by simp -dsimp only[go_sem,seval],by simp,by omega,by simp⟩ ?_
      rintro i f u hh x bs hi ⟨Jf,c',rfl,Bp,A4,Aa⟩;have CJ:=zag i (by omega);simp -dsimp only[go_sem,seval,Jf];refine zw1 (fun h=> ?_) (fun h=> ?_)<;>(try simp only[zab]at h)<;>(try simp -dsimp only[go_sem,seval, *])
      ·obtain⟨y,hy,hm⟩:=zad ‹i<e.kids.length›;simp -dsimp only[go_sem,seval,Jf,hy,A8,Eu,C4,CK];refine zas (ih y _ c' _ _ kc kv fz (by omega) (.inl rfl) (by omega) A4 A8 (by rw[zae];simp) (by rw[zae];simp[A8,Eu])) ?_;rintro r h' n' ⟨rfl,c2,rfl,C2⟩;simp -dsimp only[go_sem,seval];have Ft:=Expr.take_le_size e.kids (i+1)
       have Gy:((e.kids.take (i+1)).map Expr.size).sum=((e.kids.take i).map Expr.size).sum+y.size:=by
        rw[zac hy];simp
       refine zw1 (fun h=> ?_) (fun h=> ?_)<;>(try simp only[zab]at h)<;>(try simp -dsimp only[go_sem,seval, *])
       ·refine⟨?_,c2,by simp -dsimp only[go_sem,seval,zdy],fun L5 GS=> ?_⟩
        ·simp -dsimp only[go_sem,seval];simp only[Bool.and_eq_false_iff,decide_eq_false_iff_not]at h;rcases h with h | h
         ·rw[Expr.deep,za7 hm h];simp
         ·have : ¬c+(e.size:Int)<=600:=by omega
          simp[this]
        ·have Ji:=zx9 L5 hm;have:c'+(y.size:Int)<=600:=by omega
         simp[Ji,this]at h
       ·simp only[zF,decide_eq_true_eq]at h;have h2:=C2 h.1 h.2;exact⟨by omega,by simp -dsimp only[go_sem,seval,CJ],c2,by simp -dsimp only[go_sem,seval,zdy],by omega,by omega,zbH hy Aa h.1⟩
      ·have:i=e.kids.length:=by omega
       subst this;rw[List.take_length]at Aa Bp;refine⟨?_,c',by simp -dsimp only[go_sem,seval],fun L5 GS=>by omega⟩;simp -dsimp only[go_sem,seval];have:c+(e.size:Int)<=600:=by omega
       simp[Expr.deep,Aa,this,‹zxt e=true›])
theorem zb4 (e:Expr):Den Γ G 51 [(.agg [.t (ti (e).op),.t (ti (e).w),.t (ti (e).n),.t (.sl ((e).kids.map (Expr.enc)))])]=some (vb e.formed):=by
 (refine zw3 Γ51 rfl ?_;dsimp only[f51])
 simp -dsimp only[go_sem,seval];refine zas (zB1 40 e _ 0 _ _ _ _ false (by omega) (.inr ⟨_,false,rfl,?_,?_⟩) (by omega) (by omega) ?_ ?_ ?_) ?_
 ·decide
 ·simp -dsimp only[go_sem,seval]
 ·decide
 ·simp -dsimp only[go_sem,seval]
 ·simp -dsimp only[go_sem,seval]
 ·rintro r h' n' ⟨rfl,c',rfl,_⟩;simp -dsimp only[go_sem,seval];simp only[Expr.formed];rw[Bool.and_comm]
  congr 1
  by_cases h:e.size<=600
  ·simp[h];omega
  ·simp[h];omega
end Rg
end
