/- Part of the proof of laws of relyguardlaw36. No condition. -/
import Derived.Test.YtaiokglcgiemnaaGreatDoorEartAJ
import Derived.Stop.Joined
import Derived.ProofKit
import Derived.LaidMore
import Derived.Test.YtaiokglcgiemnaaGreatDoorEartAI
import Derived.Test.YtaiokglcgiemnaaGreatDoorEartAH
set_option linter.unusedSimpArgs false
set_option linter.unusedVariables false
set_option linter.defProp false
section
namespace Rg
open Go
section
variable {Γ:Nat->Option F} {G:Nat->List T}
variable (G) in
def om (sl:Nat->Slot):List V->List (Nat×Nat×Opd)->Option (List V)
 | cs,[]=>some cs
 | cs,(off,k,x)::r=>ob (aE G sl x) (fun v=>ob v.cells (fun a=>if a.length=k then ob (wr cs off a) (fun cs'=>om sl cs' r) ⟨0⟩else none) ⟨0⟩) ⟨0⟩
@[go_sem ↓]theorem zxx (sl:Nat->Slot) (cs:List V):om G sl cs []=some cs:=rfl
@[go_sem ↓]theorem Ya (sl:Nat->Slot) (cs:List V) (c k:Nat) (x:Opd) (r:List (Nat×Nat×Opd)):
 om G sl cs ((c,k,x)::r)=ob (aE G sl x) (fun v=>ob v.cells (fun a=>if a.length=k then ob (wr cs c a) (fun cs'=>om G sl cs' r) ⟨0⟩else none) ⟨0⟩) ⟨0⟩:=rfl
theorem Mz (sl:Nat->Slot) (u:Nat->Bool) (h:ae) (n b:Nat): ∀(r:List (Nat×Nat×Opd)) (cs:List V),ja G cs (M.st ⟨sl,u,h,n,b⟩) r=om G sl cs r
 | [],cs=>rfl
 | (off,k,x)::r,cs=>by
   rw[ja,Ya,bN];simp only[ob,zC]
   congr 1;funext v;congr 1;funext new
   split
   ·congr 1;funext cs';exact Mz sl u h n b r cs'
   ·rfl
variable (G) in
def ol (sl:Nat->Slot) (c:Nat):List (List V)->List (Nat×Opd)->Option (List (List V))
 | rs,[]=>some rs
 | rs,(i,x)::r=>ob (aE G sl x) (fun v=>ob v.cells (fun a=>if a.length=c/\i<rs.length then ol sl c (rs.set i a) r else none) ⟨0⟩) ⟨0⟩
@[go_sem ↓]theorem zxw (sl:Nat->Slot) (a:Nat) (rs:List (List V)):ol G sl a rs []=some rs:=rfl
@[go_sem ↓]theorem X' (sl:Nat->Slot) (c:Nat) (rs:List (List V)) (i:Nat) (x:Opd) (r:List (Nat×Opd)):
 ol G sl c rs ((i,x)::r)=ob (aE G sl x) (fun v=>ob v.cells (fun a=>if a.length=c/\i<rs.length then ol G sl c (rs.set i a) r else none) ⟨0⟩) ⟨0⟩:=rfl
theorem Mx (sl:Nat->Slot) (u:Nat->Bool) (h:ae) (n b a:Nat): ∀(r:List (Nat×Opd)) (rs:List (List V)),js G rs a (M.st ⟨sl,u,h,n,b⟩) r=ol G sl a rs r
 | [],rs=>rfl
 | (i,x)::r,rs=>by
   rw[js,X',bN];simp only[ob,zC]
   congr 1;funext v;congr 1;funext new
   split
   ·exact Mx sl u h n b a r _
   ·rfl
variable (G) in
def iO (sl:Nat->Slot) (d:Nat):Option Opd->Option Int
 | none=>some d
 | some x=>ob (aE G sl x) eB ⟨0⟩
@[go_sem ↓]theorem zCI (sl:Nat->Slot) (d:Nat):iO G sl d none=some (d:Int):=rfl
@[go_sem ↓]theorem zCH (sl:Nat->Slot) (d:Nat) (x:Opd):iO G sl d (some x)=ob (aE G sl x) eB ⟨0⟩:=rfl
theorem Sr (sl:Nat->Slot) (u:Nat->Bool) (h:ae) (n b d:Nat) (x:Option Opd):eU G (M.st ⟨sl,u,h,n,b⟩) d x=iO G sl d x:=by
 cases x with
 | none=>rfl
 | some x=>simp only[eU,lC,iO,ob]
def qq (h:ae) (a:Nat) (lo hi:Int):V->Option V
 | .ms k i _=>match h k with
   | some (.rows sz' rs _)=>if sz'=a/\0<=lo/\lo<=hi/\(i:Int)+hi<=rs.length then some (.ms k (i+lo.toNat) (hi-lo).toNat)else none
   | _=>none
 | _=>none
def yq (h:ae) (a n:Nat) (lo hi:Int) (v:V):Option V:=
 if 0<=lo/\lo<=hi/\hi<=n then
  match v with
  | .t .nils=>some (.t .nils)
  | .t (.sl es)=>if es.all (·.length=a)then some (.t (.sl ((es.drop lo.toNat).take (hi-lo).toNat)))else none
  | .ms k i _=>match h k with
    | some (.rows sz' _ _)=>if sz'=a then some (.ms k (i+lo.toNat) (hi-lo).toNat)else none
    | _=>none
  | _=>none
 else qq h a lo hi v
def UD:V->Option ByteArray
 | .t (.str b)=>some b
 | _=>none
def Sj:V->Option V
 | .t .nils=>some (.t .nils)
 | .t (.sl [])=>some (.t (.slc []))
 | .t (.sl (_::_))=>some (.t .nils)
 | .ms _ _ _=>some (.t .nils)
 | _=>none
attribute [go_sem] yq UD Sj sA
variable (d:Bool) (p:Nat) (l:List ROp) (Q:M->Prop) (sl:Nat->Slot) (u:Nat->Bool) (h:Nat->Option O) (n b:Nat)
@[go_sem ↓]theorem zBa (t:Nat) (z:List V) (a:List (Nat×Nat×Opd)) (w:W4 _ _ _ _):
 wO Γ G d p (⟨none,some t,.build z a⟩::l) Q ⟨sl,u,h,n,b⟩ w=bt (u t) (ob (om G sl z a) (fun cs=>some (.agg cs)) ⟨0⟩) (fun v=>wO Γ G d (p+1) l Q ⟨updC sl t ⟨v,none,none⟩,u,h,n,b⟩ ⟨0⟩) ⟨0⟩:=by
 refine du rfl ?_;simp only[ao,Mz,ob];cases om G sl z a<;>rfl
@[go_sem ↓]theorem zAX (t:Nat) (e:Nat) (x:Opd) (lo hi:Option Opd) (w:W4 _ _ _ _):
 wO Γ G d p (⟨none,some t,.slice e x lo hi none⟩::l) Q ⟨sl,u,h,n,b⟩ w=bt (u t) (ob (aE G sl x) (fun v=>ob (lenS h v) (fun k=>ob (iO G sl k hi) (fun c=>ob (iO G sl 0 lo) (fun a=>yq h e k a c v) ⟨0⟩) ⟨0⟩) ⟨0⟩) ⟨0⟩) (fun v=>wO Γ G d (p+1) l Q ⟨updC sl t ⟨v,none,none⟩,u,h,n,b⟩ ⟨0⟩) ⟨0⟩:=by
 refine du rfl ?_;simp only[ao,bN,ob,yN,Sr]
 cases aE G sl x with
 | none=>rfl
 | some v=>
   simp only[zC,zD]
   cases lenS h v with
   | none=>rfl
   | some k=>
     simp only[zD]
     cases iO G sl k hi with
     | none=>rfl
     | some c=>
       simp only[zD]
       cases iO G sl 0 lo with
       | none=>rfl
       | some a=>
         simp only[zD,yq];split
         ·cases v with
          | t x=>cases x with
            | sl es=>simp only;split<;>rfl
            | _=>rfl
          | ms q i j=>
            simp only[M.st]
            cases h q with
            | none=>rfl
            | some o=>cases o with
              | rows s rs z=>simp only;split<;>rfl
              | _=>rfl
          | _=>rfl
         ·cases v with
          | ms q i j=>
            simp only[M.st,qq]
            cases h q with
            | none=>rfl
            | some o=>cases o with
              | rows s rs z=>simp only;split<;>rfl
              | _=>rfl
          | _=>rfl
@[go_sem ↓]theorem zzg (t:Nat) (e:Nat) (x:Opd) (lo:Option Opd) (hi mx:Opd) (w:W4 _ _ _ _):
 wO Γ G d p (⟨none,some t,.slice e x lo (some hi) (some mx)⟩::l) Q ⟨sl,u,h,n,b⟩ w=bt (u t) (ob (aE G sl x) (fun v=>ob (lenS h v) (fun k=>ob (iO G sl k (some hi)) (fun c=>ob (iO G sl 0 lo) (fun a=>ob (iO G sl 0 (some mx)) (fun m=>if a=0/\c=0/\m=0 then Sj v else if 0<=a/\a<=c/\c<=m/\m<=k then some (sA e v a c m k)else none) ⟨0⟩) ⟨0⟩) ⟨0⟩) ⟨0⟩) ⟨0⟩) (fun v=>wO Γ G d (p+1) l Q ⟨updC sl t ⟨v,none,none⟩,u,h,n,b⟩ ⟨0⟩) ⟨0⟩:=by
 refine du rfl ?_;simp only[ao,bN,ob,yN,Sr,lC]
 cases aE G sl x with
 | none=>rfl
 | some v=>
   simp only[zC,zD]
   cases lenS h v with
   | none=>rfl
   | some k=>
     simp only[zD]
     cases iO G sl k (some hi)with
     | none=>rfl
     | some c=>
       simp only[zD]
       cases iO G sl 0 lo with
       | none=>rfl
       | some a=>
         simp only[zD,iO,ob]
         cases(aE G sl mx).bind eB with
         | none=>rfl
         | some m=>
           simp only[zD,na,nr];split
           ·cases v with
            | t x=>cases x with
              | sl es=>cases es<;>rfl
              | _=>rfl
            | _=>rfl
           ·split<;>rfl
attribute [go_sem] qy fE
@[go_sem ↓]theorem zB9 (t:Nat) (f:Nat) (x y:List Opd) (w:W4 _ _ _ _):
 wO Γ G d p (⟨none,some t,.mkfn f x y⟩::l) Q ⟨sl,u,h,n,b⟩ w=bt (u t) (ob (dU G sl x) (fun a=>ob (dU G sl y) (fun c=>qy f a c) ⟨0⟩) ⟨0⟩) (fun v=>wO Γ G d (p+1) l Q ⟨updC sl t ⟨v,none,none⟩,u,h,n,b⟩ ⟨0⟩) ⟨0⟩:=by
 refine du rfl ?_;simp only[ao,nX,ob]
 cases dU G sl x with
 | none=>rfl
 | some a=>
   simp only[zC,zD]
   cases dU G sl y with
   | none=>rfl
   | some c=>simp only[zD];(cases qy f a c<;>rfl)
@[go_sem ↓]theorem zzu (t:Nat) (cs:List V) (w:W4 _ _ _ _):
 wO Γ G d p (⟨none,some t,.allocH cs⟩::l) Q ⟨sl,u,h,n,b⟩ w=eA (u t) (some (V.mp (b+p) 0 0,[(b+p,O.rows cs.length [cs] false)])) (fun v hp=>wO Γ G d (p+1) l Q ⟨updC sl t ⟨v,none,none⟩,u,At h hp,n,b⟩ ⟨0⟩) ⟨0⟩:=by
 refine mU rfl ?_;rfl
@[go_sem ↓]theorem zCo (t:Nat) (k:Nat) (x:Opd) (w:W4 _ _ _ _):
 wO Γ G d p (⟨none,some t,.boxH k x⟩::l) Q ⟨sl,u,h,n,b⟩ w=eA (u t) (ob (aE G sl x) (fun v=>ob v.cells (fun cs=>if cs.length=k then some (V.mp (b+p) 0 0,[(b+p,O.rows k [cs] false)])else none) ⟨0⟩) ⟨0⟩) (fun v hp=>wO Γ G d (p+1) l Q ⟨updC sl t ⟨v,none,none⟩,u,At h hp,n,b⟩ ⟨0⟩) ⟨0⟩:=by
 refine mU rfl ?_;simp only[ao,bN,ob]
 cases aE G sl x with
 | none=>rfl
 | some v=>
   simp only[zC,zD]
   cases v.cells with
   | none=>rfl
   | some cs=>simp only[zD];split<;>rfl
@[go_sem ↓]theorem zzq (t:Nat) (a len:Nat) (z:List V) (c:List (Nat×Opd)) (w:W4 _ _ _ _):
 wO Γ G d p (⟨none,some t,.bslice a len z c⟩::l) Q ⟨sl,u,h,n,b⟩ w=eA (u t) (ob (ol G sl a (List.replicate len z) c) (fun rs=>some (V.ms (b+p) 0 len,[(b+p,O.rows a rs false)])) ⟨0⟩) (fun v hp=>wO Γ G d (p+1) l Q ⟨updC sl t ⟨v,none,none⟩,u,At h hp,n,b⟩ ⟨0⟩) ⟨0⟩:=by
 refine mU rfl ?_;simp only[ao,Mx,ob];cases ol G sl a (List.replicate len z) c<;>rfl
def yp (h:ae) (k:Nat) (a:List V):V->Option (V×List (Nat×O))
 | .mp q i c=>match h q with
   | some (.rows sz rs false)=>(rs[i]?).bind fun row=>if a.length=k then(wr row c a).bind fun row'=>some (V.undef,[(q,O.rows sz (rs.set i row') false)])else none
   | _=>none
 | _=>none
def aZ (h:ae) (q:Nat) (c bytes:Nat) (u:V) (a b:List (List V)):Option (V×List (Nat×O)):=
 if(a.length+b.length<=2^32/\bytes<=2^12)/\b.all (·.length=c)/\a.all (·.length=c)then
  if b.isEmpty then some (u,[])
  else match u with
   | .t .nils=>some (.ms q 0 b.length,[(q,.rows c b false)])
   | .t (.slc _)=>((a++b).mapM fE).bind fun e=>some (.t (.sl e),[])
   | .ms k i _=>match h k with
     | some (.rows sz' rs false)=>if sz'=c/\i=0 then some (.ms q 0 (a.length+b.length),[(k,.dead),(q,.rows c (fh a b rs) false)])else none
     | _=>none
   | _=>none
 else none
@[go_sem]theorem xb {α:Type} (a b:List α):fh a b a=a++b:=ah (Nat.le_add_right _ _)
def zq (h:ae) (c:Nat) (b:List (List V)):V->Option (V×List (Nat×O))
 | .t .nils=>some (.t (.int .i64 0),[])
 | .ms k i len=>match h k with
   | some (.rows sz' rs false)=>if sz'=c/\b.all (·.length=c)then(wr rs i (b.take len)).bind fun a=>some (.t (.int .i64 (min b.length len:Nat)),[(k,.rows c a false)])else none
   | _=>none
 | _=>none
def wU (h:ae):V->Option (List (T×V))
 | .t .nilm=>some []
 | .mm j=>match h j with
   | some (.map es)=>some es
   | _=>none
 | _=>none
def yA (h:ae) (c:T) (x:V):V->Option (V×List (Nat×O))
 | .mm j=>match h j with
   | some (.map es)=>(cZ c x es).bind fun a=>if x.one then some (V.undef,[(j,.map a)])else none
   | _=>none
 | _=>none
def uL (h:ae) (c:Nat) (zero:List V):V->Option (V×List (Nat×O))
 | .t .nils=>some (.tup [],[])
 | .ms k i len=>match h k with
   | some (.rows sz' rs false)=>if sz'=c/\zero.length=c then(wr rs i (List.replicate len zero)).bind fun a=>some (.tup [],[(k,.rows c a false)])else none
   | _=>none
 | _=>none
attribute [go_sem] yp zq wU yA uL
theorem Z' (sl:Nat->Slot) (u:Nat->Bool) (h:ae) (n b p a:Nat) (z:List V) (x:Opd):
 ao G p (M.st ⟨sl,u,h,n,b⟩) (.clear a z x)=(ob (aE G sl x) (uL h a z) ⟨0⟩).map fun v=>({ val:=v.1,hp:=v.2 }:Eff):=by
 simp only[ao,bN,ob]
 cases aE G sl x with
 | none=>rfl
 | some v=>cases v with
   | t x=>cases x<;>rfl
   | ms k i len=>
     simp only[zC,zD,uL,M.st]
     cases h k with
     | none=>rfl
     | some o=>cases o with
       | rows s rs z=>cases z with
         | false=>
           simp only;split
           ·cases wr rs i (List.replicate len _)<;>rfl
           ·rfl
         | true=>rfl
       | _=>rfl
   | _=>rfl
@[go_sem ↓]theorem zzp (a:Nat) (z:List V) (x:Opd) (w:W4 _ _ _ _):
 wO Γ G d p (⟨none,none,.clear a z x⟩::l) Q ⟨sl,u,h,n,b⟩ w=eA false (ob (aE G sl x) (uL h a z) ⟨0⟩) (fun _ hp=>wO Γ G d (p+1) l Q ⟨sl,u,At h hp,n,b⟩ ⟨0⟩) ⟨0⟩:=yo rfl (Z' ..)
@[go_sem ↓]theorem zAW (k:Nat) (a x:Opd) (w:W4 _ _ _ _):
 wO Γ G d p (⟨none,none,.store k a x⟩::l) Q ⟨sl,u,h,n,b⟩ w=eA false (ob (aE G sl a) (fun q=>ob (aE G sl x) (fun v=>ob v.cells (fun c=>yp h k c q) ⟨0⟩) ⟨0⟩) ⟨0⟩) (fun _ hp=>wO Γ G d (p+1) l Q ⟨sl,u,At h hp,n,b⟩ ⟨0⟩) ⟨0⟩:=by
 refine yo rfl ?_;simp only[ao,bN,ob]
 cases aE G sl a with
 | none=>rfl
 | some q=>
   simp only[zC,zD]
   cases m:aE G sl x with
   | none=>
     cases q with
     | mp j i e=>
       simp only[M.st,sL]
       cases h j with
       | none=>rfl
       | some o=>cases o with
         | rows f rs z=>cases z with
           | false=>simp only;cases rs[i]? <;>rfl
           | true=>rfl
         | _=>rfl
     | _=>rfl
   | some v=>
     simp only[zD]
     cases g:v.cells with
     | none=>
       cases q with
       | mp j i e=>
         simp only[M.st,sL]
         cases h j with
         | none=>rfl
         | some o=>cases o with
           | rows f rs z=>cases z with
             | false=>simp only;cases rs[i]? <;>rfl
             | true=>rfl
           | _=>rfl
       | _=>rfl
     | some c=>
       cases q with
       | mp j i e=>
         simp only[M.st,zD,yp]
         cases h j with
         | none=>rfl
         | some o=>cases o with
           | rows f rs z=>cases z with
             | false=>
               simp only
               cases rs[i]? with
               | none=>rfl
               | some row=>
                 simp only[zD];split
                 ·cases wr row e c<;>rfl
                 ·rfl
             | true=>rfl
           | _=>rfl
       | _=>rfl
def zk (a bytes:Nat) (z:List V) (k:Nat) (v:V) (m:Int):Option (V×List (Nat×O)):=match v with
 | .t .nils=>if 1<=m/\m<=2^32/\bytes<=2^12/\z.length=a then some (V.ms k 0 m.toNat,[(k,O.rows a (List.replicate m.toNat z) false)])else none
 | _=>none
@[go_sem]theorem zBV (a bytes:Nat) (z:List V) (k:Nat) (m:Int):zk a bytes z k (.t .nils) m=if 1<=m/\m<=2^32/\bytes<=2^12/\z.length=a then some (V.ms k 0 m.toNat,[(k,O.rows a (List.replicate m.toNat z) false)])else none:=rfl
@[go_sem ↓]theorem zCp (t:Nat) (c bytes:Nat) (z:List V) (x y:Opd) (w:W4 _ _ _ _):
 wO Γ G d p (⟨none,some t,.appz c bytes z x y⟩::l) Q ⟨sl,u,h,n,b⟩ w=eA (u t) (ob (aE G sl y) (fun a=>ob (eB a) (fun m=>ob (aE G sl x) (fun v=>zk c bytes z (b+p) v m) ⟨0⟩) ⟨0⟩) ⟨0⟩) (fun v hp=>wO Γ G d (p+1) l Q ⟨updC sl t ⟨v,none,none⟩,u,At h hp,n,b⟩ ⟨0⟩) ⟨0⟩:=by
 refine mU rfl ?_;simp only[ao,lC,bN,ob]
 cases aE G sl y with
 | none=>rfl
 | some a=>
   simp only[zC,zD]
   cases eB a with
   | none=>rfl
   | some m=>
     simp only[zD]
     cases aE G sl x with
     | none=>rfl
     | some v=>cases v with
       | t x=>cases x<;>first | rfl | (simp only[zD,zk];split<;>rfl)
       | _=>rfl
@[go_sem ↓]theorem zxF (t:Nat) (a bytes:Nat) (z:List V) (x y:Opd) (w:W4 _ _ _ _):
 wO Γ G d p (⟨none,some t,.mkslice a bytes z x y⟩::l) Q ⟨sl,u,h,n,b⟩ w=eA (u t) (ob (aE G sl x) (fun v=>ob (eB v) (fun k=>ob (aE G sl y) (fun c=>ob (eB c) (fun m=>if 0<=k/\k<=m/\m<=2^32/\bytes<=2^12/\z.length=a then some (V.ms (b+p) 0 k.toNat,[(b+p,O.rows a (List.replicate k.toNat z) false)])else none) ⟨0⟩) ⟨0⟩) ⟨0⟩) ⟨0⟩) (fun v hp=>wO Γ G d (p+1) l Q ⟨updC sl t ⟨v,none,none⟩,u,At h hp,n,b⟩ ⟨0⟩) ⟨0⟩:=by
 refine mU rfl ?_;simp only[ao,lC,ob]
 cases aE G sl x with
 | none=>rfl
 | some v=>
   simp only[zC,zD]
   cases eB v with
   | none=>rfl
   | some k=>
     simp only[zD]
     cases aE G sl y with
     | none=>rfl
     | some c=>
       simp only[zD]
       cases eB c with
       | none=>rfl
       | some m=>simp only[zD];split<;>rfl
@[go_sem ↓]theorem zzs (t:Nat) (f bytes:Nat) (x y:Opd) (w:W4 _ _ _ _):
 wO Γ G d p (⟨none,some t,.append f bytes x y⟩::l) Q ⟨sl,u,h,n,b⟩ w=eA (u t) (ob (aE G sl x) (fun v=>ob (aE G sl y) (fun e=>ob (rowsS h v) (fun a=>ob (rowsS h e) (fun c=>aZ h (b+p) f bytes v a c) ⟨0⟩) ⟨0⟩) ⟨0⟩) ⟨0⟩) (fun v hp=>wO Γ G d (p+1) l Q ⟨updC sl t ⟨v,none,none⟩,u,At h hp,n,b⟩ ⟨0⟩) ⟨0⟩:=by
 refine mU rfl ?_;simp only[ao,bN,ob,xZ]
 cases aE G sl x with
 | none=>rfl
 | some v=>
   simp only[zC,zD]
   cases aE G sl y with
   | none=>rfl
   | some e=>
     simp only[zD]
     cases rowsS h v with
     | none=>rfl
     | some a=>
       simp only[zD]
       cases rowsS h e with
       | none=>rfl
       | some c=>
         simp only[zD,aZ];split
         ·split
          ·rfl
          ·cases v with
           | t z=>cases z<;>first | rfl | (cases List.mapM fE (a++c)<;>rfl)
           | ms k i j=>
             simp only[M.st]
             cases h k with
             | none=>rfl
             | some o=>cases o with
               | rows s rs z=>cases z with
                 | false=>simp only;split<;>rfl
                 | true=>rfl
               | _=>rfl
           | _=>rfl
         ·rfl
def kb7 (h:ae) (f:Nat):V->Option (V×List (Nat×O))
 | .mp k i a=>match h k with
   | some (.rows sz [row] _)=>if i=0/\a=0 then(fE row).bind fun c=>some (.t (.fn f [] [.ip c]),[(k,.rows sz [row] true)])else none
   | _=>none
 | _=>none
attribute [go_sem] kb7
@[go_sem ↓]theorem zCh (t:Nat) (e:Nat) (x y:Opd) (w:W4 _ _ _ _):
 wO Γ G d p (⟨none,some t,.copy e x y⟩::l) Q ⟨sl,u,h,n,b⟩ w=eA (u t) (ob (aE G sl x) (fun v=>ob (aE G sl y) (fun a=>ob (rowsS h a) (fun c=>zq h e c v) ⟨0⟩) ⟨0⟩) ⟨0⟩) (fun v hp=>wO Γ G d (p+1) l Q ⟨updC sl t ⟨v,none,none⟩,u,At h hp,n,b⟩ ⟨0⟩) ⟨0⟩:=by
 refine mU rfl ?_;simp only[ao,bN,ob,xZ]
 cases aE G sl x with
 | none=>rfl
 | some v=>
   simp only[zC,zD]
   cases aE G sl y with
   | none=>rfl
   | some a=>
     simp only[zD]
     cases rowsS h a with
     | none=>rfl
     | some c=>
       simp only[zD,zq]
       cases v with
       | t z=>cases z<;>rfl
       | ms k i j=>
         simp only[M.st]
         cases h k with
         | none=>rfl
         | some o=>cases o with
           | rows s rs z=>cases z with
             | false=>
               simp only;split
               ·cases wr rs i (c.take j)<;>rfl
               ·rfl
             | true=>rfl
           | _=>rfl
       | _=>rfl
@[go_sem ↓]theorem zA1 (t:Nat)  (w:W4 _ _ _ _):
 wO Γ G d p (⟨none,some t,.mkmap⟩::l) Q ⟨sl,u,h,n,b⟩ w=eA (u t) (some (V.mm (b+p),[(b+p,O.map [])])) (fun v hp=>wO Γ G d (p+1) l Q ⟨updC sl t ⟨v,none,none⟩,u,At h hp,n,b⟩ ⟨0⟩) ⟨0⟩:=by
 refine mU rfl ?_;rfl
@[go_sem ↓]theorem zzl (t:Nat) (e:Nat) (z:V) (c:Bool) (x y:Opd) (w:W4 _ _ _ _):
 wO Γ G d p (⟨none,some t,.lookup e z c x y⟩::l) Q ⟨sl,u,h,n,b⟩ w=bt (u t) (ob (aE G sl y) (fun k=>ob (lN e k) (fun a=>ob (aE G sl x) (fun v=>ob (wU h v) (fun es=>ob (dD a es) (fun r=>some (if c then V.tup [r.getD z,.t (.bool r.isSome)]else r.getD z)) ⟨0⟩) ⟨0⟩) ⟨0⟩) ⟨0⟩) ⟨0⟩) (fun v=>wO Γ G d (p+1) l Q ⟨updC sl t ⟨v,none,none⟩,u,h,n,b⟩ ⟨0⟩) ⟨0⟩:=by
 refine du rfl ?_;simp only[ao,bN,ob]
 cases aE G sl y with
 | none=>rfl
 | some k=>
   simp only[zC,zD]
   cases lN e k with
   | none=>rfl
   | some a=>
     simp only[zD]
     cases aE G sl x with
     | none=>rfl
     | some v=>
       simp only[zD]
       cases v with
       | mm j=>
         simp only[wU,M.st]
         cases h j with
         | none=>rfl
         | some o=>cases o with
           | map es=>
             simp only[zD]
             cases dD a es with
             | none=>rfl
             | some r=>cases c<;>rfl
           | _=>rfl
       | t q=>cases q with
         | nilm=>cases c<;>rfl
         | _=>rfl
       | _=>rfl
@[go_sem ↓]theorem zzk (c:Nat) (x y z:Opd) (w:W4 _ _ _ _):
 wO Γ G d p (⟨none,none,.mapupd c x y z⟩::l) Q ⟨sl,u,h,n,b⟩ w=eA false (ob (aE G sl y) (fun k=>ob (lN c k) (fun a=>ob (aE G sl z) (fun r=>ob (aE G sl x) (yA h a r) ⟨0⟩) ⟨0⟩) ⟨0⟩) ⟨0⟩) (fun _ hp=>wO Γ G d (p+1) l Q ⟨sl,u,At h hp,n,b⟩ ⟨0⟩) ⟨0⟩:=by
 refine yo rfl ?_;simp only[ao,bN,ob]
 cases aE G sl y with
 | none=>rfl
 | some k=>
   simp only[zC,zD]
   cases lN c k with
   | none=>rfl
   | some a=>
     simp only[zD]
     cases aE G sl z with
     | none=>rfl
     | some r=>
       simp only[zD]
       cases aE G sl x with
       | none=>rfl
       | some v=>
         simp only[zD]
         cases v with
         | mm j=>
           simp only[M.st,yA]
           cases h j with
           | none=>rfl
           | some o=>cases o with
             | map es=>
               simp only
               cases cZ a r es with
               | none=>rfl
               | some e=>simp only[zD];split<;>rfl
             | _=>rfl
         | _=>rfl
def qt (d a:Bool) (h:ae) (g:Nat) (vs:List V) (o:Option (List V)) (K:V->ae->Prop) (_:WK K):Prop:=match o with
 | none=>False
 | some rs=>match Den Γ G g rs with
   | none=>False
   | some r=>a=false/\if r.scalar then K r h else(d=true->vs.flatMap (bU h)=[])/\K r (At h (freezes h (vs.flatMap (bU h))))
def fU (o:Option V) (d:Bool) (h:ae) (vs:List V) (K:V->ae->Prop) (_:WK K):Prop:=match o with
 | none=>False
 | some r=>if r.scalar then K r h else(d=true->vs.flatMap (bU h)=[])/\K r (At h (freezes h (vs.flatMap (bU h))))
@[go_sem]theorem zyX (d:Bool) (h:ae) (g:Nat) (vs rs:List V) (K:V->ae->Prop) (w:WK K):
 qt (Γ:=Γ) (G:=G) d false h g vs (some rs) K w=fU (Den Γ G g rs) d h vs K ⟨0⟩:=by
 simp only[qt,fU]
 cases Den Γ G g rs with
 | none=>rfl
 | some r=>simp
@[go_sem]theorem zAP (k:IntKind) (n:Int) (d:Bool) (h:ae) (vs:List V) (K:V->ae->Prop) (w:WK K):fU (some (.t (.int k n))) d h vs K w=K (.t (.int k n)) h:=by
 simp[fU,V.scalar,V.scalar2,V.scalar1,T.scalar]
@[go_sem]theorem zyW (x:Bool) (d:Bool) (h:ae) (vs:List V) (K:V->ae->Prop) (w:WK K):fU (some (.t (.bool x))) d h vs K w=K (.t (.bool x)) h:=by
 simp[fU,V.scalar,V.scalar2,V.scalar1,T.scalar]
@[go_sem]theorem zAN (x:ByteArray) (d:Bool) (h:ae) (vs:List V) (K:V->ae->Prop) (w:WK K):fU (some (.t (.str x))) d h vs K w=K (.t (.str x)) h:=by
 simp[fU,V.scalar,V.scalar2,V.scalar1,T.scalar]
@[go_sem]theorem Yu (r:V) (d:Bool) (h:ae) (vs:List V) (K:V->ae->Prop) (w:WK K) (c:vs.all V.tree=true):
 fU (some r) d h vs K w=K r h:=by
 have a:vs.flatMap (bU h)=[]:=by
  simp only[nj];intro v e;exact K2 (zN.1 c v e)
 simp[fU,a,freezes,bE]
@[go_sem]theorem zAO (r:V) (d:Bool) (h:ae) (K:V->ae->Prop) (w:WK K):fU (some r) d h [] K w=K r h:=Yu r d h [] K w rfl
def jh (K:List V->Prop) (_:WK K) (o:Option (List V)):Prop:=match o with
 | none=>False
 | some vs=>K vs
@[go_sem]theorem zxy (vs:List V) (K:List V->Prop) (w:WK K):jh K w (some vs)=K vs:=rfl
theorem Rf {d:Bool} {t:Nat} {l:List ROp} {p:Nat} {Q:M->Prop} {sl:Nat->Slot} {u:Nat->Bool} {h:ae} {n b g:Nat} {vs:List V}:
 ux Γ G d ⟨sl,u,h,n,b⟩ (some t) g vs (fun a=>wpO Γ G d (p+1) l a Q)=
  qt (Γ:=Γ) (G:=G) d (u t) h g vs (vs.mapM (toT1 h)) (fun r h'=>wO Γ G d (p+1) l Q ⟨updC sl t ⟨r,none,none⟩,u,h',n,b⟩ ⟨0⟩) ⟨0⟩:=by
 rw[ce (α:=Slot)];rw[kap];simp only[qt,M.free,gj,wO,cN,iI]
 cases vs.mapM (toT1 h)with
 | none=>simp
 | some rs=>
   simp only
   cases Den Γ G g rs with
   | none=>simp
   | some r=>
     simp only[uD,M.apply,eJ,bl,eD]
@[go_sem ↓]theorem zCl (t g:Nat) (args:List Opd) (w:W4 _ _ _ _):
 wO Γ G d p (⟨none,some t,.call false (.c (.t (.fn g [] []))) args⟩::l) Q ⟨sl,u,h,n,b⟩ w=
  jh (fun vs=>qt (Γ:=Γ) (G:=G) d (u t) h g vs (vs.mapM (toT1 h)) (fun r h'=>wO Γ G d (p+1) l Q ⟨updC sl t ⟨r,none,none⟩,u,h',n,b⟩ ⟨0⟩) ⟨0⟩) ⟨0⟩ (dU G sl args):=by
 unfold wO;rw[cN];rw[iD];simp only[jX,evl,zD,cA,be,nX]
 cases dU G sl args with
 | none=>rfl
 | some vs=>
   simp only[jh,eY,bQ,zG,aX];have e:=Rf (Γ:=Γ) (G:=G) (d:=d) (t:=t) (l:=l) (p:=p) (Q:=Q) (sl:=sl) (u:=u) (h:=h) (n:=n) (b:=b) (g:=g) (vs:=vs);unfold wO at e;rw[cN]at e;exact e
def fnK (o:Option V) (K:Nat->List V->List V->Prop) (_:WK K):Prop:=match o with
 | none=>False
 | some v=>match cA v with
   | none=>False
   | some (g,a,c)=>K g a c
@[go_sem]theorem zDd (g:Nat) (a c:List T) (K:Nat->List V->List V->Prop) (w:WK K):fnK (some (.t (.fn g a c))) K w=K g (a.map V.t) (c.map V.t):=rfl
@[go_sem]theorem zDc (g:Nat) (a c:List V) (K:Nat->List V->List V->Prop) (w:WK K):fnK (some (.fn g a c)) K w=K g a c:=rfl
@[go_sem ↓]theorem zA9 (t x:Nat) (args:List Opd) (w:W4 _ _ _ _):
 wO Γ G d p (⟨none,some t,.call false (.s x) args⟩::l) Q ⟨sl,u,h,n,b⟩ w=
  fnK (aE G sl (.s x)) (fun g a c=>jh (fun vs=>qt (Γ:=Γ) (G:=G) d (u t) h g (a++vs++c) ((a++vs++c).mapM (toT1 h)) (fun r h'=>wO Γ G d (p+1) l Q ⟨updC sl t ⟨r,none,none⟩,u,h',n,b⟩ ⟨0⟩) ⟨0⟩) ⟨0⟩ (dU G sl args)) ⟨0⟩:=by
 unfold wO;rw[cN];rw[iD];simp only[jX,bN,nX]
 cases aE G sl (.s x)with
 | none=>cases dU G sl args<;>rfl
 | some v=>
   simp only[zD,fnK]
   cases cA v with
   | none=>
     simp only
     cases dU G sl args with
     | none=>rfl
     | some vs=>
       simp only[zG,pZ]
       split<;>rfl
   | some q=>
     obtain⟨g,a,c⟩:=q;simp only
     cases dU G sl args with
     | none=>rfl
     | some vs=>
       simp only[jh,zG,aX];have e:=Rf (Γ:=Γ) (G:=G) (d:=d) (t:=t) (l:=l) (p:=p) (Q:=Q) (sl:=sl) (u:=u) (h:=h) (n:=n) (b:=b) (g:=g) (vs:=a++vs++c);unfold wO at e;rw[cN]at e;exact e
def mZ (a:Bool) (o:Option (V×ae×Nat)) (K:V->ae->Nat->Prop) (_:WK K):Prop:=match o with
 | none=>False
 | some (r,h,n)=>a=false/\K r h n
theorem P_ {d:Bool} {t:Nat} {l:List ROp} {p:Nat} {Q:M->Prop} {sl:Nat->Slot} {u:Nat->Bool} {h:ae} {n b g:Nat} {vs:List V}:
 uw Γ G ⟨sl,u,h,n,b⟩ (some t) g vs (fun c=>wpO Γ G d (p+1) l c Q)=
  mZ (u t) (DenR Γ G g vs h n) (fun r h' a=>wO Γ G d (p+1) l Q ⟨updC sl t ⟨r,none,none⟩,u,h',a,b⟩ ⟨0⟩) ⟨0⟩:=by
 (try rw[ce (α:=Slot)])
 rw[kao];simp only[mZ,M.free,gj,wO,cN]
 cases DenR Γ G g vs h n with
 | none=>simp
 | some q=>
   obtain⟨r,h',a⟩:=q;simp only[M.apply,eJ,bl,eD]
@[go_sem ↓]theorem zAY (t g:Nat) (args:List Opd) (w:W4 _ _ _ _):
 wO Γ G d p (⟨none,some t,.call true (.c (.t (.fn g [] []))) args⟩::l) Q ⟨sl,u,h,n,b⟩ w=
  jh (fun vs=>mZ (u t) (DenR Γ G g vs h n) (fun r h' a=>wO Γ G d (p+1) l Q ⟨updC sl t ⟨r,none,none⟩,u,h',a,b⟩ ⟨0⟩) ⟨0⟩) ⟨0⟩ (dU G sl args):=by
 unfold wO;rw[cN];rw[iD];simp only[jX,evl,zD,cA,be,nX]
 cases dU G sl args with
 | none=>rfl
 | some vs=>
   simp only[jh,eY,bQ,aU];have e:=P_ (Γ:=Γ) (G:=G) (d:=d) (t:=t) (l:=l) (p:=p) (Q:=Q) (sl:=sl) (u:=u) (h:=h) (n:=n) (b:=b) (g:=g) (vs:=vs);unfold wO at e;rw[cN]at e;exact e
def fnY (o:Option V) (K:Nat->List V->List V->Prop) (Y:Nat->Prop) (_:WK K) (_:WK Y):Prop:=match o with
 | none=>False
 | some v=>match cA v with
   | some (g,a,c)=>K g a c
   | none=>match uR v with
     | some k=>Y k
     | none=>False
@[go_sem]theorem zDb (g:Nat) (a c:List V) (K:Nat->List V->List V->Prop) (Y:Nat->Prop) (w:WK K) (w':WK Y):fnY (some (.fn g a c)) K Y w w'=K g a c:=rfl
@[go_sem]theorem zDa (k:Nat) (K:Nat->List V->List V->Prop) (Y:Nat->Prop) (w:WK K) (w':WK Y):fnY (some (.yl k)) K Y w w'=Y k:=rfl
theorem kab {d:Bool} {t:Nat} {l:List ROp} {p:Nat} {Q:M->Prop} {sl:Nat->Slot} {u:Nat->Bool} {h:ae} {n b k:Nat} {vs:List V}:
 vd Γ G ⟨sl,u,h,n,b⟩ (some t) k vs (fun c=>wpO Γ G d (p+1) l c Q)=
  mZ (u t) (DenY Γ G k vs h n) (fun r h' a=>wO Γ G d (p+1) l Q ⟨updC sl t ⟨r,none,none⟩,u,h',a,b⟩ ⟨0⟩) ⟨0⟩:=by
 (try rw[ce (α:=Slot)])
 rw[ka9];simp only[mZ,M.free,gj,wO,cN]
 cases DenY Γ G k vs h n with
 | none=>simp
 | some q=>
   obtain⟨r,h',a⟩:=q;simp only[M.apply,eJ,bl,eD]
def rU (f:Bool) (h:ae) (a g:Nat) (vs:List V) (K:V->List (Nat×O)->Prop) (_:WK K):Prop:=
 f=false/\vs.flatMap (bU h)=[]/\ ∃rs,vs.mapM (toT1 h)=some rs/\ ∃r h' c,DenR Γ G g rs (fun _=>none) 0=some (r,h',c)/\ ∃e,iX a r h'=some e/\K e.val e.hp
@[go_sem ↓]theorem zA7 (t g:Nat) (args:List Opd) (w:W4 _ _ _ _):
 wO Γ G d p (⟨none,some t,.fcall (.c (.t (.fn g [] []))) args⟩::l) Q ⟨sl,u,h,n,b⟩ w=
  jh (fun vs=>rU (Γ:=Γ) (G:=G) (u t) h (b+p) g vs (fun v hp=>wO Γ G d (p+1) l Q ⟨updC sl t ⟨v,none,none⟩,u,At h hp,n,b⟩ ⟨0⟩) ⟨0⟩) ⟨0⟩ (dU G sl args):=by
 unfold wO;rw[cN];rw[iD];simp only[jX,evl,zD,cA,be,nX]
 cases dU G sl args with
 | none=>rfl
 | some vs=>
   simp only[jh,eY,bQ,S6,rU,M.free,gj,eD];apply propext;constructor
   ·rintro⟨i,j,rs,k,r,h',m,c,_,e,a,f⟩;refine⟨i,j,rs,k,r,h',m,jt.2 c,e,a,?_⟩;obtain⟨o,q,s⟩:=rn a;rw[ce,iI];simpa[M.apply,eJ,o,q,s]using f
   ·rintro⟨i,j,rs,k,r,h',m,c,e,a,f⟩;refine⟨i,j,rs,k,r,h',m,jt.1 c,zm (jt.1 c),e,a,?_⟩;obtain⟨o,q,s⟩:=rn a;rw[ce,iI]at f;simpa[M.apply,eJ,o,q,s]using f
@[go_sem ↓]theorem zzi (t x:Nat) (args:List Opd) (w:W4 _ _ _ _):
 wO Γ G d p (⟨none,some t,.call true (.s x) args⟩::l) Q ⟨sl,u,h,n,b⟩ w=
  fnY (aE G sl (.s x)) (fun g a c=>jh (fun vs=>mZ (u t) (DenR Γ G g (a++vs++c) h n) (fun r h' f=>wO Γ G d (p+1) l Q ⟨updC sl t ⟨r,none,none⟩,u,h',f,b⟩ ⟨0⟩) ⟨0⟩) ⟨0⟩ (dU G sl args))
   (fun k=>jh (fun vs=>mZ (u t) (DenY Γ G k vs h n) (fun r h' f=>wO Γ G d (p+1) l Q ⟨updC sl t ⟨r,none,none⟩,u,h',f,b⟩ ⟨0⟩) ⟨0⟩) ⟨0⟩ (dU G sl args)) ⟨0⟩ ⟨0⟩:=by
 unfold wO;rw[cN];rw[iD];simp only[jX,bN,nX]
 cases aE G sl (.s x)with
 | none=>cases dU G sl args<;>rfl
 | some v=>
   simp only[zD,fnY]
   cases cA v with
   | none=>
     simp only
     cases uR v with
     | none=>cases dU G sl args<;>rfl
     | some k=>
       simp only
       cases dU G sl args with
       | none=>rfl
       | some vs=>
         simp only[jh,nK];have e:=kab (Γ:=Γ) (G:=G) (d:=d) (t:=t) (l:=l) (p:=p) (Q:=Q) (sl:=sl) (u:=u) (h:=h) (n:=n) (b:=b) (k:=k) (vs:=vs);unfold wO at e;rw[cN]at e
         exact e
   | some q=>
     obtain⟨g,a,c⟩:=q;simp only
     cases dU G sl args with
     | none=>rfl
     | some vs=>
       simp only[jh,aU];have e:=P_ (Γ:=Γ) (G:=G) (d:=d) (t:=t) (l:=l) (p:=p) (Q:=Q) (sl:=sl) (u:=u) (h:=h) (n:=n) (b:=b) (g:=g) (vs:=a++vs++c);unfold wO at e;rw[cN]at e;exact e
def resVal:V->Option V
 | .undef=>none
 | .lb=>none
 | .tup _=>none
 | v=>some v
attribute [go_sem] resVal
def uX (h:ae) (ag:Bool) (n:Nat):V->Option V
 | .mp k i a=>match h k with
   | some (.rows _ rs _)=>(rs[i]?).bind fun row=>(rd row a n).bind (dS ag)
   | _=>none
 | _=>none
attribute [go_sem] uX
theorem UJ (sl:Nat->Slot) (u:Nat->Bool) (h:ae) (n b t:Nat):eS (M.st ⟨sl,u,h,n,b⟩) (.s t)=resVal (sl t).v:=by
 simp only[eS,M.st];cases(sl t).v<;>rfl
theorem UI (sl:Nat->Slot) (u:Nat->Bool) (h:ae) (n b t:Nat) (ag:Bool) (k:Nat):eS (M.st ⟨sl,u,h,n,b⟩) (.l t ag k)=ob (sl t).box (fun cs=>ob (rd cs 0 k) (dS ag) ⟨0⟩) ⟨0⟩:=rfl
theorem UH (sl:Nat->Slot) (u:Nat->Bool) (h:ae) (n b t:Nat) (ag:Bool) (k:Nat):eS (M.st ⟨sl,u,h,n,b⟩) (.h t ag k)=uX h ag k (sl t).v:=by
 simp only[eS,M.st,uX]
 cases(sl t).v with
 | mp q i a=>simp only;cases h q with
   | none=>rfl
   | some o=>cases o with
     | rows c rs z=>rfl
     | _=>rfl
 | _=>rfl
def rZ:List V->V
 | [v]=>v
 | vs=> .tup vs
attribute [go_sem] rZ
theorem YW (sl:Nat->Slot) (u c:Nat->Bool) (h:ae) (n b a b':Nat) (r:Res):eS (M.st ⟨sl,u,h,n,b⟩) r=eS (M.st ⟨sl,c,h,a,b'⟩) r:=by
 cases r<;>rfl
structure W5 (sl:Nat->Slot) (h:Nat->Option O) (rs:List Res) (acc:List V) (K:V->Prop)where
 n:Nat
def g_ (sl:Nat->Slot) (h:ae) (rs:List Res) (acc:List V) (K:V->Prop) (_:W5 sl h rs acc K):Prop:=
 match rs.mapM (eS (M.st ⟨sl,fun _=>false,h,0,0⟩))with
 | none=>False
 | some vs=>K (rZ (acc++vs))
@[go_sem ↓]theorem zzF (sl:Nat->Slot) (h:ae) (acc:List V) (K:V->Prop) (w:W5 sl h [] acc K):g_ sl h [] acc K w=K (rZ acc):=by simp[g_]
theorem x7 (sl:Nat->Slot) (h:ae) (r:Res) (rs:List Res) (acc:List V) (K:V->Prop) (w:W5 sl h (r::rs) acc K):
 g_ sl h (r::rs) acc K w=bt false (eS (M.st ⟨sl,fun _=>false,h,0,0⟩) r) (fun v=>g_ sl h rs (acc++[v]) K ⟨0⟩) ⟨0⟩:=by
 simp only[g_,cM,zC]
 cases eS (M.st ⟨sl,fun _=>false,h,0,0⟩) r with
 | none=>rfl
 | some v=>
   simp only[zD,bt,nK]
   cases rs.mapM (eS (M.st ⟨sl,fun _=>false,h,0,0⟩))with
   | none=>rfl
   | some vs=>simp
@[go_sem ↓]theorem zCv (sl:Nat->Slot) (h:ae) (t:Nat) (rs:List Res) (acc:List V) (K:V->Prop) (w:W5 sl h (.s t::rs) acc K):
 g_ sl h (.s t::rs) acc K w=bt false (resVal (sl t).v) (fun v=>g_ sl h rs (acc++[v]) K ⟨0⟩) ⟨0⟩:=by rw[x7,UJ]
@[go_sem ↓]theorem zCw (sl:Nat->Slot) (h:ae) (t:Nat) (ag:Bool) (k:Nat) (rs:List Res) (acc:List V) (K:V->Prop) (w:W5 sl h (.l t ag k::rs) acc K):
 g_ sl h (.l t ag k::rs) acc K w=bt false (ob (sl t).box (fun cs=>ob (rd cs 0 k) (dS ag) ⟨0⟩) ⟨0⟩) (fun v=>g_ sl h rs (acc++[v]) K ⟨0⟩) ⟨0⟩:=by rw[x7,UI]
@[go_sem ↓]theorem zCx (sl:Nat->Slot) (h:ae) (t:Nat) (ag:Bool) (k:Nat) (rs:List Res) (acc:List V) (K:V->Prop) (w:W5 sl h (.h t ag k::rs) acc K):
 g_ sl h (.h t ag k::rs) acc K w=bt false (uX h ag k (sl t).v) (fun v=>g_ sl h rs (acc++[v]) K ⟨0⟩) ⟨0⟩:=by rw[x7,UH]
theorem x8 (sl:Nat->Slot) (u:Nat->Bool) (h:ae) (n b:Nat) (rs:List Res) (K:V->Prop):
 (∃v,jf (M.st ⟨sl,u,h,n,b⟩) rs=some v/\K v)=g_ sl h rs [] K ⟨0⟩:=by
 have:eS (M.st ⟨sl,u,h,n,b⟩)=eS (M.st ⟨sl,fun _=>false,h,0,0⟩):=funext fun r=>YW sl u _ h n b 0 0 r
 simp only[jf,this,g_,eY,zC]
 cases rs.mapM (eS (M.st ⟨sl,fun _=>false,h,0,0⟩))with
 | none=>simp
 | some vs=>
   simp only[zD]
   cases vs with
   | nil=>simp[rZ]
   | cons v vs=>cases vs<;>simp[rZ]
def Fi (rs:List Res) (r:V) (e:Ex) (m:M):Prop:=Fin rs r e m
@[go_sem ↓]theorem zCe (rs:List Res) (r:V) (sl:Nat->Slot) (u:Nat->Bool) (h:ae) (n b:Nat):Fi rs r .ret ⟨sl,u,h,n,b⟩=g_ sl h rs [] (fun v=>reify h v=some r) ⟨0⟩:=by
 rw[Fi,kcx,x8]
def FiR (rs:List Res) (P:V->ae->Nat->Prop) (e:Ex) (m:M):Prop:=qA rs P e m
@[go_sem ↓]theorem zA4 (rs:List Res) (P:V->ae->Nat->Prop) (sl:Nat->Slot) (u:Nat->Bool) (h:ae) (n b:Nat):FiR rs P .ret ⟨sl,u,h,n,b⟩=g_ sl h rs [] (fun v=>SpN (P v h n) ⟨0⟩) ⟨0⟩:=by
 rw[FiR,ka7,<- x8 sl u h n b];rfl
@[go_sem ↓]theorem zA5 (rs:List Res) (P:V->ae->Nat->Prop) (sl:Nat->Slot) (u:Nat->Bool) (h:ae) (n b:Nat):FiR rs P .normal ⟨sl,u,h,n,b⟩=g_ sl h rs [] (fun v=>SpN (P v h n) ⟨0⟩) ⟨0⟩:=by
 rw[FiR,ka8,<- x8 sl u h n b];rfl
theorem nN {g:Nat} {args:List V} {fn:F} {r:V} (a:Γ g=some fn) (c:fn.raw=false)
 (h:wC Γ G fn.body (qOf Γ G [] (Fi fn.results r)) ⟨slotsC args 0,fun _=>false,fun _=>none,0,0⟩ ⟨0⟩):Den Γ G g args=some r:=kcq a c (by unfold wC at h;rw[fg,eK,xT]at h;exact h)
theorem Ve {g:Nat} {args:List V} {fn:F} {hp:ae} {n:Nat} {P:V->ae->Nat->Prop} (c:Γ g=some fn) (e:fn.raw=true)
 (h:wC Γ G fn.body (qOf Γ G [] (FiR fn.results P)) ⟨slotsC args 0,fun _=>false,hp,n,n⟩ ⟨0⟩): ∃r h' a,DenR Γ G g args hp n=some (r,h',a)/\P r h' a:=kan c e (by unfold wC at h;rw[fg,eK,xT]at h;exact h)
theorem ba {b:C} {sl:Nat->Slot} {c:Nat->Bool} {nx a:Nat} {Q:Ex->M->Prop} {w:W3 b Q ⟨sl,c,fun _=>none,nx,a⟩} (k:Nat) (n:Nat) (Inv:Nat->(Nat->Slot)->Prop) (j:b.wrIn (oh k)=true) (g:b.noH=true)
 (e:Inv 0 sl)
 (h: ∀i f u x bs,i<=n->Inv i f->wC Γ G b (qOf Γ G [] (gZ (fun m=>SpN (i<n/\Inv (i+1) m.sl) ⟨0⟩) Q)) ⟨ovrM k f sl,u,fun _=>none,x,bs⟩ ⟨0⟩):wL Γ G b Q ⟨sl,c,fun _=>none,nx,a⟩ w:=
 by
  unfold wL;rw[jC];exact U3 _ n Inv j g e (by unfold ovrM wC at h;rw[uG,fg,eK]at h;exact h)
theorem aS {b:C} {sl:Nat->Slot} {e:Nat->Bool} {hp:ae} {nx c:Nat} {Q:Ex->M->Prop} {w:W3 b Q ⟨sl,e,hp,nx,c⟩} (k:Nat) (n:Nat) (Inv:Nat->(Nat->Slot)->ae->Nat->Prop) (j:b.wrIn (oh k)=true)
 (g:Inv 0 sl hp nx)
 (h: ∀i f u h x bs,i<=n->Inv i f h x->wC Γ G b (qOf Γ G [] (gZ (fun a=>SpN (i<n/\Inv (i+1) a.sl a.heap a.nxt) ⟨0⟩) Q)) ⟨ovrM k f sl,u,h,x,bs⟩ ⟨0⟩):wL Γ G b Q ⟨sl,e,hp,nx,c⟩ w:=
 by
  unfold wL;rw[jC];exact kci _ n Inv j g (by unfold ovrM wC at h;rw[uG,fg,eK]at h;exact h)
@[go_sem ↓]theorem zB5 (sl:Nat->Slot) (u:Nat->Bool) (h:ae) (n b:Nat):(M.mk sl u h n b).sl=sl:=rfl
end
end Rg
namespace Rg
open Go
theorem bK {Γ:Nat->Option F} {G:Nat->List T} {b:C} {Q:Ex->M->Prop} {m:M} {w:W3 b Q m} (h:wC Γ G b (qOf Γ G [] (gZ (fun a=>wL Γ G b Q a ⟨0⟩) Q)) m ⟨0⟩):wL Γ G b Q m w:=
 by
  unfold wC at h;rw[fg,eK]at h;unfold wL at h⊢;rw[jC]at h⊢;exact SE (jK h)
end Rg
namespace Rg
open Go
theorem bf {o:Option (V×ae×Nat)} {P:V->ae->Nat->Prop} {K:V->ae->Nat->Prop} {w:WK K}
 (h: ∃r h' a,o=some (r,h',a)/\P r h' a) (c: ∀r h' a,P r h' a->K r h' a):mZ false o K w:=by
 obtain⟨r,h',a,rfl,hp⟩:=h;exact⟨rfl,c r h' a hp⟩
attribute [go_sem] List.isEmpty_cons List.isEmpty_nil List.set_cons_zero List.set_cons_succ Nat.lt_add_one Nat.zero_add Option.isSome_some ne_eq Int.cast_ofNat_Int decide_true decide_false not_false_eq_true not_true_eq_false and_self exists_eq_left' V.t.injEq T.bool.injEq T.int.injEq V.agg.injEq V.tup.injEq List.cons.injEq
theorem bh:(∀(p:Prop) [Decidable p],(decide p=true)=p)/\(∀(p:Prop) [Decidable p],(decide p=false)<-> ¬p)/\(∀(α:Type) [BEq α] [LawfulBEq α] (a b:α),(a==b)=true<->a=b)
 /\(∀(α:Type) [BEq α] [LawfulBEq α] (a b:α),(a != b)=true<->a≠b)/\(∀(α:Type) [BEq α] [LawfulBEq α] (x y:α),(x==y)=false<->x≠y)/\(∀(α:Type) [BEq α] [LawfulBEq α] (a b:α),(a != b)=false<->a=b)
 /\(∀b:Bool,((!b)=true)=(b=false))/\(∀b:Bool,((!b)=false)=(b=true))/\(∀b c:Bool,((!b)=c)=(b= !c))/\((!true)=false)/\((!false)=true)/\(∀(α:Type) (a b:α),(a≠b)= ¬a=b)/\(∀(p:Prop) [Decidable p],¬¬p<->p):=
 ⟨fun _ _=>aR,fun _ _=>ek,fun _ _ _ _ _=>oz,fun _ _ _ _ _=>bne_iff_ne,fun _ _ _ _ _=>GX,fun _ _ _ _ _=>bne_eq_false_iff_eq,eD,nf,
  fun _ _=>af,rfl,rfl,fun _ _ _=>rfl,fun _ _=>sJ⟩
theorem ax {P Q:Prop} (q:Q) (h:P=Q:=by simp -dsimp only[go_sem,seval];try rfl):P:=h▸q
abbrev jj (F P:Prop):= ∀{Q:Prop},Q->(h:F->P=Q:=by intro h;simp -dsimp only[go_sem,seval,h];try rfl)->P
abbrev mK (F P:Prop):=(h:F->P:=by intro h;simp -dsimp only[go_sem,seval,h])->P
abbrev U' (F P:Prop):=(h:F->P:=by intro h;simp -dsimp only[go_sem,seval,h];omega)->P
theorem am {p:Prop} (h:p:=by simp -dsimp only[go_sem,seval]):p:=h
theorem av {p:Prop} (h:p:=by simp -dsimp only[go_sem,seval];omega):p:=h
abbrev mJ (F:Prop) (b:Bool) (A B:Prop) (w:Wit A B):=∀{p q A' iS:Prop},(p->A')->(q->iS)->(e:(b=true)=p:=by (try simp only[bh]);try rfl)->(f:(b=false)=q:=by (try simp only[bh]);try rfl)->(r:F->b=true->A=A':=by intro f h;(try rewrite[h]);(try simp -dsimp only[go_sem,seval,f]);try rfl)->(s:F->b=false->B=iS:=by intro f h;(try rewrite[h]);(try simp -dsimp only[go_sem,seval,f]);try rfl)->eO b A B w
theorem nI {F:Prop} (x:F) {b:Bool} {A B:Prop} {w:Wit A B}:mJ F b A B w:=fun k l e f r s=>bp (fun h=>r x h▸k (e▸h)) fun h=>s x h▸l (f▸h)
theorem gH {b:Bool} {A B:Prop} {w:Wit A B}:mJ True b A B w:=@nI _ trivial _ _ _ _
theorem aQ {A X Y:Prop}(a:A){x:Bool} {y:Wit X Y}:mJ (A) x X Y y:=@nI _ a _ _ _ _
theorem dz {A B X Y:Prop}(a:A)(b:B){x:Bool} {y:Wit X Y}:mJ (A/\B) x X Y y:=@nI _ ⟨a,b⟩ _ _ _ _
theorem qS {A B C X Y:Prop}(a:A)(b:B)(c:C){x:Bool} {y:Wit X Y}:mJ (A/\B/\C) x X Y y:=@nI _ ⟨a,b,c⟩ _ _ _ _
theorem mI {A B C D X Y:Prop}(a:A)(b:B)(c:C)(d:D){x:Bool} {y:Wit X Y}:mJ (A/\B/\C/\D) x X Y y:=@nI _ ⟨a,b,c,d⟩ _ _ _ _
theorem kR {A B C D E X Y:Prop}(a:A)(b:B)(c:C)(d:D)(e:E){x:Bool} {y:Wit X Y}:mJ (A/\B/\C/\D/\E) x X Y y:=@nI _ ⟨a,b,c,d,e⟩ _ _ _ _
theorem vx {A B C D E F X Y:Prop}(a:A)(b:B)(c:C)(d:D)(e:E)(f:F){x:Bool} {y:Wit X Y}:mJ (A/\B/\C/\D/\E/\F) x X Y y:=@nI _ ⟨a,b,c,d,e,f⟩ _ _ _ _
theorem U_ {A B C D E F I X Y:Prop}(a:A)(b:B)(c:C)(d:D)(e:E)(f:F)(i:I){x:Bool} {y:Wit X Y}:mJ (A/\B/\C/\D/\E/\F/\I) x X Y y:=@nI _ ⟨a,b,c,d,e,f,i⟩ _ _ _ _
abbrev sE (F:Prop) (b:Bool) (A B:Prop) (w:Wit A B):=∀{p q A' iS:Prop},(p->A')->(q->iS)->(e:(b=true)=p:=by (try simp only[bh]);try rfl)->(f:(b=false)=q:=by (try simp only[bh]);try rfl)->(r:F->b=true->A=A':=by intro f h;(try simp only[bh]at h);(try simp -dsimp only[go_sem,seval,f, *]);try rfl)->(s:F->b=false->B=iS:=by intro f h;(try simp only[bh]at h);(try simp -dsimp only[go_sem,seval,f, *]);try rfl)->eO b A B w
theorem vw {F:Prop} (x:F) {b:Bool} {A B:Prop} {w:Wit A B}:sE F b A B w:=fun k l e f r s=>bp (fun h=>r x h▸k (e▸h)) fun h=>s x h▸l (f▸h)
theorem bu {b:Bool} {A B:Prop} {w:Wit A B}:sE True b A B w:=@vw _ trivial _ _ _ _
theorem vt {A X Y:Prop}(a:A){x:Bool} {y:Wit X Y}:sE (A) x X Y y:=@vw _ a _ _ _ _
theorem EH {A B X Y:Prop}(a:A)(b:B){x:Bool} {y:Wit X Y}:sE (A/\B) x X Y y:=@vw _ ⟨a,b⟩ _ _ _ _
theorem U9 {A B C X Y:Prop}(a:A)(b:B)(c:C){x:Bool} {y:Wit X Y}:sE (A/\B/\C) x X Y y:=@vw _ ⟨a,b,c⟩ _ _ _ _
theorem ar {A P:Prop}(a:A):jj (A) P:=fun q h=>h a▸q
theorem al {A P:Prop}(a:A):mK (A) P:=fun h=>h a
theorem EE {A P:Prop}(a:A):U' (A) P:=fun h=>h a
theorem aG {A B P:Prop}(a:A)(b:B):jj (A/\B) P:=fun q h=>h ⟨a,b⟩▸q
theorem a_ {A B P:Prop}(a:A)(b:B):mK (A/\B) P:=fun h=>h ⟨a,b⟩
theorem aY {A B C P:Prop}(a:A)(b:B)(c:C):jj (A/\B/\C) P:=fun q h=>h ⟨a,b,c⟩▸q
theorem dp {A B C P:Prop}(a:A)(b:B)(c:C):mK (A/\B/\C) P:=fun h=>h ⟨a,b,c⟩
theorem bw {A B C D P:Prop}(a:A)(b:B)(c:C)(d:D):jj (A/\B/\C/\D) P:=fun q h=>h ⟨a,b,c,d⟩▸q
theorem jR {A B C D P:Prop}(a:A)(b:B)(c:C)(d:D):mK (A/\B/\C/\D) P:=fun h=>h ⟨a,b,c,d⟩
theorem bG {A B C D E P:Prop}(a:A)(b:B)(c:C)(d:D)(e:E):jj (A/\B/\C/\D/\E) P:=fun q h=>h ⟨a,b,c,d,e⟩▸q
theorem sD {A B C D E P:Prop}(a:A)(b:B)(c:C)(d:D)(e:E):mK (A/\B/\C/\D/\E) P:=fun h=>h ⟨a,b,c,d,e⟩
theorem cw {A B C D E F P:Prop}(a:A)(b:B)(c:C)(d:D)(e:E)(f:F):jj (A/\B/\C/\D/\E/\F) P:=fun q h=>h ⟨a,b,c,d,e,f⟩▸q
theorem po {A B C D E F P:Prop}(a:A)(b:B)(c:C)(d:D)(e:E)(f:F):mK (A/\B/\C/\D/\E/\F) P:=fun h=>h ⟨a,b,c,d,e,f⟩
theorem dc {A B C D E F I P:Prop}(a:A)(b:B)(c:C)(d:D)(e:E)(f:F)(i:I):jj (A/\B/\C/\D/\E/\F/\I) P:=fun q h=>h ⟨a,b,c,d,e,f,i⟩▸q
theorem U8 {A B C D E F I P:Prop}(a:A)(b:B)(c:C)(d:D)(e:E)(f:F)(i:I):mK (A/\B/\C/\D/\E/\F/\I) P:=fun h=>h ⟨a,b,c,d,e,f,i⟩
theorem qR {A B C D E F I J P:Prop}(a:A)(b:B)(c:C)(d:D)(e:E)(f:F)(i:I)(j:J):jj (A/\B/\C/\D/\E/\F/\I/\J) P:=fun q h=>h ⟨a,b,c,d,e,f,i,j⟩▸q
theorem U7 {A B C D E F I J P:Prop}(a:A)(b:B)(c:C)(d:D)(e:E)(f:F)(i:I)(j:J):mK (A/\B/\C/\D/\E/\F/\I/\J) P:=fun h=>h ⟨a,b,c,d,e,f,i,j⟩
theorem nJ {A B C D E F I J K P:Prop}(a:A)(b:B)(c:C)(d:D)(e:E)(f:F)(i:I)(j:J)(k:K):jj (A/\B/\C/\D/\E/\F/\I/\J/\K) P:=fun q h=>h ⟨a,b,c,d,e,f,i,j,k⟩▸q
theorem jk {A B C D E F I J K L P:Prop}(a:A)(b:B)(c:C)(d:D)(e:E)(f:F)(i:I)(j:J)(k:K)(l:L):jj (A/\B/\C/\D/\E/\F/\I/\J/\K/\L) P:=fun q h=>h ⟨a,b,c,d,e,f,i,j,k,l⟩▸q
theorem Va {A B C D E F I J K L P:Prop}(a:A)(b:B)(c:C)(d:D)(e:E)(f:F)(i:I)(j:J)(k:K)(l:L):mK (A/\B/\C/\D/\E/\F/\I/\J/\K/\L) P:=fun h=>h ⟨a,b,c,d,e,f,i,j,k,l⟩
theorem kT {A B C D E F I J K L M P:Prop}(a:A)(b:B)(c:C)(d:D)(e:E)(f:F)(i:I)(j:J)(k:K)(l:L)(m:M):jj (A/\B/\C/\D/\E/\F/\I/\J/\K/\L/\M) P:=fun q h=>h ⟨a,b,c,d,e,f,i,j,k,l,m⟩▸q
theorem qV {A B C D E F I J K L M N P:Prop}(a:A)(b:B)(c:C)(d:D)(e:E)(f:F)(i:I)(j:J)(k:K)(l:L)(m:M)(n:N):jj (A/\B/\C/\D/\E/\F/\I/\J/\K/\L/\M/\N) P:=fun q h=>h ⟨a,b,c,d,e,f,i,j,k,l,m,n⟩▸q
theorem EP {P Q:Prop} (q:Q) (h:P=Q:=by simp -dsimp [go_sem];try rfl):P:=h▸q
abbrev qU (F P:Prop):= ∀{Q:Prop},Q->(h:F->P=Q:=by intro h;simp -dsimp [go_sem,h];try rfl)->P
abbrev vB (F P:Prop):=(h:F->P:=by intro h;simp -dsimp [go_sem,h])->P
abbrev kkl (F P:Prop):=(h:F->P:=by intro h;simp -dsimp [go_sem,h];omega)->P
theorem mL {p:Prop} (h:p:=by simp -dsimp [go_sem]):p:=h
abbrev zx (F:Prop) (b:Bool) (A B:Prop) (w:Wit A B):=∀{p q A' iS:Prop},(p->A')->(q->iS)->(e:(b=true)=p:=by (try simp only[bh]);try rfl)->(f:(b=false)=q:=by (try simp only[bh]);try rfl)->(r:F->b=true->A=A':=by intro f h;(try rewrite[h]);(try simp -dsimp [go_sem,f]);try rfl)->(s:F->b=false->B=iS:=by intro f h;(try rewrite[h]);(try simp -dsimp [go_sem,f]);try rfl)->eO b A B w
theorem EN {F:Prop} (x:F) {b:Bool} {A B:Prop} {w:Wit A B}:zx F b A B w:=fun k l e f r s=>bp (fun h=>r x h▸k (e▸h)) fun h=>s x h▸l (f▸h)
theorem vz {b:Bool} {A B:Prop} {w:Wit A B}:zx True b A B w:=@EN _ trivial _ _ _ _
theorem zw {A X Y:Prop}(a:A){x:Bool} {y:Wit X Y}:zx (A) x X Y y:=@EN _ a _ _ _ _
abbrev zu (F:Prop) (b:Bool) (A B:Prop) (w:Wit A B):=∀{p q A' iS:Prop},(p->A')->(q->iS)->(e:(b=true)=p:=by (try simp only[bh]);try rfl)->(f:(b=false)=q:=by (try simp only[bh]);try rfl)->(r:F->b=true->A=A':=by intro f h;(try simp only[bh]at h);(try simp -dsimp [go_sem,f, *]);try rfl)->(s:F->b=false->B=iS:=by intro f h;(try simp only[bh]at h);(try simp -dsimp [go_sem,f, *]);try rfl)->eO b A B w
theorem EJ {F:Prop} (x:F) {b:Bool} {A B:Prop} {w:Wit A B}:zu F b A B w:=fun k l e f r s=>bp (fun h=>r x h▸k (e▸h)) fun h=>s x h▸l (f▸h)
theorem qT {b:Bool} {A B:Prop} {w:Wit A B}:zu True b A B w:=@EJ _ trivial _ _ _ _
theorem E4 {A X Y:Prop}(a:A){x:Bool} {y:Wit X Y}:zu (A) x X Y y:=@EJ _ a _ _ _ _
theorem jS {A P:Prop}(a:A):qU (A) P:=fun q h=>h a▸q
theorem ES {A P:Prop}(a:A):vB (A) P:=fun h=>h a
theorem sF {A B P:Prop}(a:A)(b:B):qU (A/\B) P:=fun q h=>h ⟨a,b⟩▸q
theorem zV {A B P:Prop}(a:A)(b:B):vB (A/\B) P:=fun h=>h ⟨a,b⟩
theorem zR {A B C P:Prop}(a:A)(b:B)(c:C):qU (A/\B/\C) P:=fun q h=>h ⟨a,b,c⟩▸q
theorem Vd {A B C D P:Prop}(a:A)(b:B)(c:C)(d:D):qU (A/\B/\C/\D) P:=fun q h=>h ⟨a,b,c,d⟩▸q
theorem zy {A B C D P:Prop}(a:A)(b:B)(c:C)(d:D):vB (A/\B/\C/\D) P:=fun h=>h ⟨a,b,c,d⟩
theorem Vc {A B C D E P:Prop}(a:A)(b:B)(c:C)(d:D)(e:E):qU (A/\B/\C/\D/\E) P:=fun q h=>h ⟨a,b,c,d,e⟩▸q
theorem Vb {A B C D E F P:Prop}(a:A)(b:B)(c:C)(d:D)(e:E)(f:F):qU (A/\B/\C/\D/\E/\F) P:=fun q h=>h ⟨a,b,c,d,e,f⟩▸q
theorem EQ {A B C D E F P:Prop}(a:A)(b:B)(c:C)(d:D)(e:E)(f:F):vB (A/\B/\C/\D/\E/\F) P:=fun h=>h ⟨a,b,c,d,e,f⟩
theorem aD {Γ:Nat->Option F} {G:Nat->List T} {g:Nat} {l:List V} {r:V} {n:Nat} {s:List Res} {c:C} (e:Γ g=some ⟨n,false,s,c⟩:=by rfl) (q:wC Γ G c (qOf Γ G [] (Fi s r)) ⟨slotsC l 0,fun _=>false,fun _=>none,0,0⟩ ⟨0⟩):Den Γ G g l=some r:=nN e rfl q
theorem bM {Γ:Nat->Option F} {G:Nat->List T} {g:Nat} {l:List V} {k:Nat->Option O} {m:Nat} {P:V->(Nat->Option O)->Nat->Prop} {n:Nat} {s:List Res} {c:C} (e:Γ g=some ⟨n,true,s,c⟩:=by rfl) (q:wC Γ G c (qOf Γ G [] (FiR s P)) ⟨slotsC l 0,fun _=>false,k,m,m⟩ ⟨0⟩): ∃r h' n',DenR Γ G g l k m=some (r,h',n')/\P r h' n':=Ve e rfl q
end Rg
end
section
set_option maxRecDepth 100000
namespace Go.Proofs.YtaiokglcgiemnaaGreatDoor
open Go Rg Go.ChangeShapes Go.WideShapes Go.ChangeAt Go.WideMaps Go.WideElems Go.RowKit
theorem own:ownKnob Tryz.prog.godebug=none:=aj
theorem kb1:laidOutB Tryz.prog=true:=aj
def ty:Tys:=⟨3,4,9,5,28,46,33,31,81,22,109,100,102,36,35,37,39,25,128,23,132,24,27,107,110,49,51,54⟩
theorem kbk:ty.Ok Tryz.prog:=⟨⟨⟨aj,aj,aj,aj,aj,aj,aj,aj,aj,aj,aj,aj,aj,aj,aj,aj,aj,aj,aj,aj,aj,aj⟩,aj⟩,aj,aj,aj,aj,aj⟩
theorem kbj:ty.OkP Tryz.prog:=kbk.toOkP
theorem lQ:ty.Ok0 Tryz.prog:=kbj.toOk0
abbrev rM:List (String×DataW Unit):=Rows.terminationBoundRow.laid
theorem kag {W:World} (h:laidMetH Tryz.prog rM W):uM Seat.N (fun r=>r<W.heap.size) W:=by
 intro k j x a
 match k,a with
 | 0, a => exact QH (nm := "relyguard/expr.masks") (g := 0) (k := 0) (t := 149) (e := 3) (ls := [.int .i64 0, .int .i64 1, .int .i64 3, .int .i64 7, .int .i64 15, .int .i64 31, .int .i64 63, .int .i64 127, .int .i64 255]) aj h (zL (i := 3) rfl) aj aj aj (.inr ⟨.i64, aj⟩) aj aj rfl rfl j x a
 | 1,a=>exact(by have c:([]:List T)[j]? =some x:=a;rw[wc]at c;cases c)
 | 2, a => exact QH (nm := "internal/strconv.uint64pow10") (g := 1) (k := 2) (t := 288) (e := 207) (ls := [.int .u64 1, .int .u64 10, .int .u64 100, .int .u64 1000, .int .u64 10000, .int .u64 100000, .int .u64 1000000, .int .u64 10000000, .int .u64 100000000, .int .u64 1000000000, .int .u64 10000000000, .int .u64 100000000000, .int .u64 1000000000000, .int .u64 10000000000000, .int .u64 100000000000000, .int .u64 1000000000000000, .int .u64 10000000000000000, .int .u64 100000000000000000, .int .u64 1000000000000000000, .int .u64 10000000000000000000]) aj h (zL (i := 2) rfl) aj aj aj (.inr ⟨.u64, aj⟩) aj aj rfl rfl j x a
 | k+3,a=>exact(by have c:([]:List T)[j]? =some x:=a;rw[wc]at c;cases c)
theorem inv:Seat.I.Ok Seat.N:=kcp (fun q k h=>by
 split at h
 ·cases h;rename_i a;exact⟨a.symm,by intro h;cases h⟩
 ·split at h
  ·cases h;rename_i a;exact⟨a.symm,by intro h;cases h⟩
  ·cases h)
theorem UP:SF Tryz.prog Seat.I Seat.N Rg.Γ:=fun g fn h=>Seat.all (g,fn) (Kj h)
theorem kar {g:Nat} {a:List V} {r:V} (h:Den Rg.Γ Rg.G g a=some r):oi Tryz.prog Seat.N g a r:=
 Y_ inv UP aj (fun _ _ _=>Iff.rfl) (pL.1 h)
theorem Zq (os:Os) (args:Array Value):laidMetH Tryz.prog rM ((World.doorLaid Tryz.prog 400 os).forCall (fun _ _=>0) ⟨#[],args,[]⟩).memory:=
 laidMetH_of_parts3 (fuel:=8) (laidMet_of_run' 8 aj aj) aj aj
end Go.Proofs.YtaiokglcgiemnaaGreatDoor
end
section
namespace Rg
open Go
theorem o_ (n:Int) (k:n<=62):Den Γ G 33 [vi n]=some (vi (2^n.toNat)):=by
 refine aD (q:=ax ?_);refine ba 4088 n.toNat (fun i f=>(f 4).v=vi i/\(f 3).v=vi (2^i)) rfl rfl ⟨am,al @Int.pow_zero⟩ ?_;rintro i f u m bb hi ⟨c,a⟩;have e:=aC i aa;refine aY c a e ?_;refine U9 c a e ?_ ?_<;>intro h
 ·have j:(2:Int)^i<=2^61:=kQ aa;have g:=iG i;have hp:IntKind.i64.wrap ((2:Int)^i*2)=2^(i+1):=by rw[bq aa,Int.pow_succ]
  exact⟨aa,am,al hp⟩
 ·have:i=n.toNat:=aa
  rw[this]
def cS (op:Int):Int:=
 if 1<=op/\op<=3 then 0 else if op=4 then 1 else if 5<=op/\op<=13 then 2 else if op=14 then 3 else -1
theorem Zb (op:Int):Den Γ G 116 [vi op]=some (vi (cS op)):=by
 refine aD (q:=ax ?_)
 repeat'(refine bu ?_ ?_<;>intro h)
 all_goals(unfold cS;grind)
theorem Pp (e:Expr): ∀l:Int,l<2^40->Den Γ G 47 [(.agg [.t (ti (e).op),.t (ti (e).w),.t (ti (e).n),.t (.sl ((e).kids.map (Expr.enc)))]),vi l]=some (vi (if l<=0 then 0 else min (e.size:Int) l)):=by
 induction e using Expr.ind with
 | _ e t=>
 intro l y;have v:=Expr.size_eq e;have w:=Expr.len_le_size e.kids
 refine aD (q:=ax ?_);refine bu ?_ ?_<;>intro h<;>try exact⟨⟩
 refine ba 4294966880 e.kids.length (fun i f=>(f 6).v=vi i/\(f 5).v=vi (min (1+((e.kids.take i).map Expr.size).sum:Nat) l)) rfl rfl ⟨am,by simp -dsimp only[go_sem,seval];simp;omega⟩ ?_;rintro i f u z bb hi ⟨c,a⟩;have hp:=Expr.take_le_size e.kids i;have j:=Expr.len_le_size (e.kids.take i);rw[bJ,iZ hi]at j;refine aG c a ?_;refine EH c a ?_ ?_<;>intro h
 ·refine EH c a ?_ ?_<;>intro h
  ·have s:=aC i aa;obtain⟨x,g,q⟩:=aw ‹i<e.kids.length›;have r:=bc g;have m:min (((1+((e.kids.take i).map Expr.size).sum:Nat):Int)) l=((1+((e.kids.take i).map Expr.size).sum:Nat):Int):=aa
   rw[m]at a;have k:IntKind.i64.wrap (l-((1+((e.kids.take i).map Expr.size).sum:Nat):Int))=l-((1+((e.kids.take i).map Expr.size).sum:Nat):Int):=bq aa;have o:=t x q (l-((1+((e.kids.take i).map Expr.size).sum:Nat):Int)) aa;refine cw c a s g k o ?_;refine⟨aa,am,?_⟩;refine ax ?_;rw[ac aa,r,bq aa];simp only[dZ,List.sum_append,aT,be,qX,List.sum_nil];omega
  ·omega
 ·have:i=e.kids.length:=aa
  subst this;rw[bg];omega
def cv (e:Expr):Bool:=
 if cS e.op≠e.kids.length\/e.w<1\/e.w>8 then false
 else if e.op=1 then decide (0<=e.n/\e.n<2^e.w.toNat)
 else if e.op=2\/e.op=3 then decide (0<=e.n/\e.n<32)
 else if e.op=4 then decide (e.n=0/\e.kw 0=e.w)
 else if e.op=11\/e.op=12\/e.op=13 then decide (e.n=0/\e.w=1/\e.kw 0=e.kw 1)
 else if e.op=14 then decide (e.n=0/\e.kw 0=1/\e.kw 1=e.w/\e.kw 2=e.w)
 else decide (e.n=0/\e.kw 0=e.w/\e.kw 1=e.w)
def Expr.deep:Nat->Expr->Bool
 | 0,_=>false
 | d+1,e=>cv e&&e.kids.all (Expr.deep d)
theorem tj {α:Type} {l:List α} {i:Nat} {x:α} {p:α->Bool} (h:l[i]? =some x) (a:(l.take i).all p=true) (c:p x=true):(l.take (i+1)).all p=true:=by
 rw[bc h,np,a];simp[c]
theorem o8 {α:Type} {l:List α} {x:α} {p:α->Bool} (h:x∈l) (a:p x=false):l.all p=false:=by
 rw[List.all_eq_false];exact⟨x,h,by simp[a]⟩
theorem kac (op:Int):cS op<=3:=by unfold cS;grind
theorem nP {e:Expr} (h:cv e=true):e.kids.length<=3:=by
 have:=kac e.op;unfold cv at h;split at h
 ·simp at h
 ·rename_i h';simp only[mf,sJ]at h';omega
end Rg
end
section
-- FULL
namespace Rg
open Go
theorem nA (op:Int):op=1\/op=2\/op=3\/op=4\/op=5\/op=6\/op=7\/op=8\/op=9\/op=10\/op=11\/op=12\/op=13\/op=14\/(op<1\/14<op):=aa
theorem pb {op:Int} (h:op<1\/14<op):cS op= -1:=by unfold cS;grind
set_option maxHeartbeats 2000000
theorem kaR (e:Expr):Den Γ G 89 [(.agg [.t (ti (e).op),.t (ti (e).w),.t (ti (e).n),.t (.sl ((e).kids.map (Expr.enc)))])]=some (vb (cv e)):=by
 refine aD (q:=?_)
 obtain⟨op,w,n,k⟩:=e;have i:=Zb op
 by_cases f:cS op=(k.length:Int)
 ·by_cases q:1<=w/\w<=8
  ·have g: ¬w<1:=aa
   have j: ¬w>8:=aa
   have hp:=o_ w aa;rcases nA op with rfl | rfl | rfl | rfl | rfl | rfl | rfl | rfl | rfl | rfl | rfl | rfl | rfl | rfl | o
   rotate_right
   ·rw[pb o]at f;omega
   all_goals(
    rcases k with _ | ⟨a,_ | ⟨b,_ | ⟨c,_ | ⟨d,r⟩⟩⟩⟩
    all_goals(try(exfalso;simp[cS]at f;(try omega);done))
    all_goals(
     simp -dsimp [go_sem,i,hp,f,g,j,sH]
     repeat'(refine E4 hp ?_ ?_<;>intro h)
     all_goals(simp only[cv,go_sem,Expr.kw,c8,dM];grind)))
  ·by_cases g:w<1
   ·simp -dsimp [go_sem,i,f,sH,g];simp only[cv,go_sem];grind
   ·have j:w>8:=aa
    simp -dsimp [go_sem,i,f,sH,g,j];simp only[cv,go_sem];grind
 ·have m:(cS op != (k.length:Int))=true:=ak f
  refine sF i m ?_;simp only[cv,go_sem];grind
theorem Z8 (d:Nat): ∀(e:Expr) (l:Int),l.toNat=d->l<=100->Den Γ G 68 [(.agg [.t (ti (e).op),.t (ti (e).w),.t (ti (e).n),.t (.sl ((e).kids.map (Expr.enc)))]),vi l]=some (vb (e.deep d)):=by
 induction d with
 | zero=>
   intro e l q k
   refine aD (q:=?_)
   have c:l<1:=aa
   refine ar c ?_
   rfl
 | succ d v=>
   intro e l q k
   refine aD (q:=?_)
   have c: ¬l<1:=aa
   have s:=kaR e;refine aG c s ?_;refine bu ?_ ?_<;>intro h
   ·simp only[Expr.deep,h,ig]
   ·have w:=nP h;refine ba 536862768 e.kids.length (fun i f=>(f 5).v=vi i/\(e.kids.take i).all (Expr.deep d)=true) rfl rfl ⟨am,af⟩ ?_;rintro i f u y bb hi ⟨g,a⟩;have t:=aC i aa;refine ar g ?_;refine bu ?_ ?_<;>intro h
    ·obtain⟨x,j,r⟩:=aw ‹i<e.kids.length›;have m:IntKind.i64.wrap (l-1)=l-1:=bq aa;have o:=v x (l-1) aa aa;refine bw g j m o ?_;refine bu ?_ ?_<;>intro h
     ·rw[Expr.deep,o8 r h];simp
     ·exact⟨aa,al t,tj j a h⟩
    ·have:i=e.kids.length:=aa
     subst this;rw[bg]at a;simp only[Expr.deep,a,gj];simp_all
def Expr.formed (e:Expr):Bool:=decide (e.size<=600)&&e.deep 40
theorem xN (e:Expr):Den Γ G 48 [(.agg [.t (ti (e).op),.t (ti (e).w),.t (ti (e).n),.t (.sl ((e).kids.map (Expr.enc)))])]=some (vb e.formed):=by
 refine aD (q:=?_)
 have a:=Pp e 601 aa;have c:=Z8 40 e 40 rfl aa;refine aG a c ?_;refine bu ?_ ?_<;>intro h
 ·have:e.size<=600:=aa
  simp[Expr.formed,this]
 ·have : ¬e.size<=600:=aa
  simp[Expr.formed,this]
theorem pc (e:Expr) (l:Int) (f:0<=l/\l<10000):Den Γ G 23 [(.agg [.t (ti (e).op),.t (ti (e).w),.t (ti (e).n),.t (.sl ((e).kids.map (Expr.enc)))]),vi l]=some (vb (decide ((e.size:Int)<=l))):=by
 refine aD (q:=?_)
 have c:IntKind.i64.wrap (l+1)=l+1:=bq aa;have a:=Pp e (l+1) aa;refine aG a c ?_;rw[ac aa];simp;omega
def dB (cells:List Cell) (pair:Bool) (e:Expr):Bool:=
 if e.op=3/\pair=false then false
 else if(e.op=3\/e.op=2)then(match cells[e.n.toNat]? with | some c=>decide (c.w=e.w) | none=>false)
 else true
def Expr.nneg (e:Expr):Bool:=e.allE fun x=>decide (0<=x.n/\x.kids.length<=3)
theorem kaO (cells:List Cell) (pair:Bool) (e:Expr):e.nneg=true->Den Γ G 49 [(.agg [.t (ti (e).op),.t (ti (e).w),.t (ti (e).n),.t (.sl ((e).kids.map (Expr.enc)))]),.t (.sl (cells.map Cell.enc)),vb pair]=some (vb (e.allE (dB cells pair))):=by
 induction e using Expr.ind with
 | _ e s=>
 intro o;have w:0<=e.n/\e.kids.length<=3:=by have:=Expr.allE_self o;simpa using this
 refine aD (q:=?_)
 rcases r:cells[e.n.toNat]? with _ | c
 ·have t:e.n>=(cells.length:Int):=by rw[ox]at r;omega
  refine ax ?_
  repeat'(refine bu ?_ ?_<;>intro h)
  all_goals(try(rw[Expr.allE_eq];simp[dB, *];done))
  all_goals(
   refine ba 144112989052600512 e.kids.length (fun i f=>(f 7).v=vi i/\(e.kids.take i).all (Expr.allE (dB cells pair))=true) rfl rfl ⟨am,af⟩ ?_;rintro i f u v bb hi ⟨j,a⟩;have q:=aC i aa;refine ar j ?_;refine bu ?_ ?_<;>intro h
   ·obtain⟨x,k,g⟩:=aw ‹i<e.kids.length›;have m:=s x g (Expr.allE_kid o g);refine aY j k m ?_;refine bu ?_ ?_<;>intro h
    ·subst_vars;rw[Expr.allE_eq,o8 g h];simp
    ·exact⟨aa,al q,tj k a h⟩
   ·have:i=e.kids.length:=aa
    subst this;rw[bg]at a
    subst_vars;rw[Expr.allE_eq,a];simp[dB, *])
 ·have t: ¬e.n>=(cells.length:Int):=by
   have:=(zH.1 r).1;omega
  refine ax ?_
  repeat'(refine bu ?_ ?_<;>intro h)
  all_goals(try(rw[Expr.allE_eq];simp[dB, *];done))
  all_goals(
   refine ba 144112989052600512 e.kids.length (fun i f=>(f 7).v=vi i/\(e.kids.take i).all (Expr.allE (dB cells pair))=true) rfl rfl ⟨am,af⟩ ?_;rintro i f u v bb hi ⟨j,a⟩;have q:=aC i aa;refine ar j ?_;refine bu ?_ ?_<;>intro h
   ·obtain⟨x,k,g⟩:=aw ‹i<e.kids.length›;have m:=s x g (Expr.allE_kid o g);refine aY j k m ?_;refine bu ?_ ?_<;>intro h
    ·subst_vars;rw[Expr.allE_eq,o8 g h];simp
    ·exact⟨aa,al q,tj k a h⟩
   ·have:i=e.kids.length:=aa
    subst this;rw[bg]at a
    subst_vars;rw[Expr.allE_eq,a];simp[dB, *])
theorem pJ {e:Expr} (h:cv e=true):0<=e.n:=by
 unfold cv at h;split at h
 ·simp at h
 ·grind
theorem Yv (d:Nat): ∀e:Expr,e.deep d=true->e.nneg=true:=by
 induction d with
 | zero=>intro e h;simp[Expr.deep]at h
 | succ d c=>
   intro e h;simp only[Expr.deep,zF,zN]at h;unfold Expr.nneg;rw[Expr.allE_eq];simp only[zF,zN,aR];exact⟨⟨pJ h.1,nP h.1⟩,fun k a=>c k (h.2 k a)⟩
theorem X7 {e:Expr} (h:e.formed=true):e.nneg=true:=by
 simp only[Expr.formed,zF]at h;exact Yv 40 e h.2
def Expr.valid (e:Expr) (cells:List Cell) (pair:Bool):Bool:=e.formed&&e.allE (dB cells pair)
theorem ua (e:Expr) (cells:List Cell) (pair:Bool):Den Γ G 24 [(.agg [.t (ti (e).op),.t (ti (e).w),.t (ti (e).n),.t (.sl ((e).kids.map (Expr.enc)))]),.t (.sl (cells.map Cell.enc)),vb pair]=some (vb (e.valid cells pair)):=by
 refine aD (q:=?_)
 have c:=xN e
 by_cases a:e.formed=true
 ·have f:=kaO cells pair e (X7 a);refine aY c f a ?_;simp[Expr.valid,a]
 ·have a:e.formed=false:=ak a
  refine aG c a ?_;simp[Expr.valid,a]
theorem us (a w:Int) (v:0<=w/\w<=62):IntKind.i64.wrap ((BitVec.ofInt IntKind.i64.bits a&&& BitVec.ofInt IntKind.i64.bits (2^w.toNat-1)).toNat)=a % 2^w.toNat:=by
 have hp:=iG w.toNat
 have j:(BitVec.ofInt 64 a&&& BitVec.ofInt 64 (2^w.toNat-1)).toNat=(a % 2^w.toNat).toNat:=by
  have c:w.toNat<=62:=aa
  generalize w.toNat=k at c
  have f:(2:Int)^k-1=((2^k-1:Nat):Int):=by
   have:0<2^k:=Nat.pow_pos aa;rw[Int.ofNat_sub this];simp
  have o:2^k<=2^62:=ru aa c
  have g:(BitVec.ofInt 64 ((2:Int)^k-1)).toNat=2^k-1:=by
   rw[f];simp only[v_];rw[show(((2^64:Nat):Int))=((2^64:Nat):Int)from rfl,<- Int.natCast_emod,ng,sM aa]
  rw[BitVec.toNat_and,g,Nat.and_two_pow_sub_one_eq_mod,v_]
  have m:(2:Int)^k ∣ ((2^64:Nat):Int):=by
   have:(2:Nat)^k ∣ 2^64:=Nat.pow_dvd_pow 2 aa
   exact_mod_cast this
  have e:0<=a % ((2^64:Nat):Int):=vJ _ aa;have q:(0:Int)<2^k:=iG k
  have:(((a % ((2^64:Nat):Int)).toNat % 2^k:Nat):Int)=a % 2^k:=by
   rw[Int.natCast_emod,Int.toNat_of_nonneg e];rw[show((2^k:Nat):Int)=(2:Int)^k by simp];exact Int.emod_emod_of_dvd a m
  omega
 show IntKind.i64.wrap ((BitVec.ofInt 64 a&&& BitVec.ofInt 64 (2^w.toNat-1)).toNat)=_;rw[j];have r:=vJ a (show(2:Int)^w.toNat≠0 from aa);have s:=Int.emod_lt_of_pos a hp;have t:=kQ (i:=w.toNat) (k:=62) aa;rw[bq aa];omega
theorem ss (n w:Int) (e:0<=w/\w<=62):Den Γ G 117 [vi n,vi w]=some (vi (n % 2^w.toNat)):=by
 refine aD (q:=?_)
 have c:=o_ w aa;have f:=kQ (i:=w.toNat) (k:=62) aa;have g:=iG w.toNat;have a:IntKind.i64.wrap ((2:Int)^w.toNat-1)=2^w.toNat-1:=bq aa;refine aG c a ?_;exact us n w e
def atI (l:List Int) (n:Int):Int:=l.getD n.toNat 0
theorem SI (l:List Int) (n:Int) (f:0<=n):Den Γ G 118 [.t (ints l),vi n]=some (vi (atI l n)):=by
 refine aD (q:=?_)
 rcases a:l[n.toNat]? with _ | c
 ·have e: ¬n<(l.length:Int):=by rw[ox]at a;omega
  refine ar e ?_;simp[atI,List.getD,a]
 ·have e:n<(l.length:Int):=by have:=(zH.1 a).1;omega
  refine aY e f a ?_;simp[atI,List.getD,a]
theorem nT {a:Int} (h:0<=a/\a<2^62):(BitVec.ofInt 64 a).toNat=a.toNat:=by
 simp only[v_];omega
theorem OQ {a b:Int} (c:0<=a/\a<2^62) (e:0<=b/\b<2^62):IntKind.i64.wrap ((BitVec.ofInt IntKind.i64.bits a&&& BitVec.ofInt IntKind.i64.bits b).toNat)=((a.toNat&&& b.toNat:Nat):Int):=by
 show IntKind.i64.wrap ((BitVec.ofInt 64 a&&& BitVec.ofInt 64 b).toNat)=_;rw[BitVec.toNat_and,nT c,nT e];have:a.toNat&&& b.toNat<=a.toNat:=Nat.and_le_left;exact bq aa
theorem QQ {a b:Int} (c:0<=a/\a<2^62) (e:0<=b/\b<2^62):IntKind.i64.wrap ((BitVec.ofInt IntKind.i64.bits a ||| BitVec.ofInt IntKind.i64.bits b).toNat)=((a.toNat ||| b.toNat:Nat):Int):=by
 show IntKind.i64.wrap ((BitVec.ofInt 64 a ||| BitVec.ofInt 64 b).toNat)=_;rw[BitVec.toNat_or,nT c,nT e];have:a.toNat ||| b.toNat<2^62:=Nat.or_lt_two_pow aa aa;exact bq aa
theorem MG {a b:Int} (c:0<=a/\a<2^62) (e:0<=b/\b<2^62):IntKind.i64.wrap ((BitVec.ofInt IntKind.i64.bits a^^^ BitVec.ofInt IntKind.i64.bits b).toNat)=((a.toNat^^^ b.toNat:Nat):Int):=by
 show IntKind.i64.wrap ((BitVec.ofInt 64 a^^^ BitVec.ofInt 64 b).toNat)=_;rw[BitVec.toNat_xor,nT c,nT e];have:a.toNat^^^ b.toNat<2^62:=Nat.xor_lt_two_pow aa aa;exact bq aa
def opv (op w a b c:Int):Int:=
 if op=4 then 2^w.toNat-1-a
 else if op=5 then((a.toNat&&& b.toNat:Nat):Int)
 else if op=6 then((a.toNat ||| b.toNat:Nat):Int)
 else if op=7 then((a.toNat^^^ b.toNat:Nat):Int)
 else if op=8 then(a+b) % 2^w.toNat
 else if op=9 then(a-b) % 2^w.toNat
 else if op=10 then a*b % 2^w.toNat
 else if op=11 then(if a=b then 1 else 0)
 else if op=12 then(if a<b then 1 else 0)
 else if op=13 then(if a<=b then 1 else 0)
 else(if a=1 then b else c)
def Sc (e:Expr) (v:List Int):Prop:=cv e=true/\v.length=e.kids.length/\(∀x∈v,0<=x/\x<256)/\(e.op=14->v.getD 0 0=0\/v.getD 0 0=1)
def rR (e:Expr) (v:List Int):Int:=if e.op=1 then e.n else opv e.op e.w (v.getD 0 0) (v.getD 1 0) (v.getD 2 0)
set_option maxHeartbeats 2000000 in
theorem Zd (e:Expr) (v:List Int) (h:Sc e v) (o:e.op≠2/\e.op≠3):Den Γ G 119 [(.agg [.t (ti (e).op),.t (ti (e).w),.t (ti (e).n),.t (.sl ((e).kids.map (Expr.enc)))]),.t (ints v)]=some (vi (rR e v)):=by
 obtain⟨g,s,i,f⟩:=h;obtain⟨op,w,n,t⟩:=e;simp only[Expr.op_mk,Expr.kids_mk]at *
 have k:cS op=(t.length:Int):=by
  unfold cv at g;simp only[Expr.op_mk,Expr.kids_mk]at g;grind
 have V:1<=w/\w<=8:=by
  unfold cv at g;simp only[Expr.w_mk]at g;grind
 have hp:=o_ w aa;have R:(2:Int)^w.toNat<=2^8:=kQ aa;have H:=iG w.toNat
 refine aD (q:=?_)
 rcases nA op with rfl | rfl | rfl | rfl | rfl | rfl | rfl | rfl | rfl | rfl | rfl | rfl | rfl | rfl | m
 rotate_right
 ·rw[pb m]at k;omega
 all_goals(try(exfalso;simp at o;done))
 all_goals(
  rcases v with _ | ⟨a,_ | ⟨b,_ | ⟨c,_ | ⟨d,r⟩⟩⟩⟩
  all_goals(try(exfalso;simp[cS]at k s;(try omega);done)))
 all_goals(try(have q:=i a af))
 all_goals(try(have j:=i b af))
 all_goals(try(have U:=i c af))
 all_goals(try(have K:=ss (a+b) w aa))
 all_goals(try(have J:=ss (a-b+2^w.toNat) w aa))
 all_goals(try(have I:=ss (a*b) w aa))
 all_goals(try(have E:0<=a*b/\a*b<=65536:=⟨Int.mul_nonneg q.1 j.1,by
  have S:a*b<=256*b:=Fp aa j.1
  omega⟩))
 all_goals(try(have y:IntKind.i64.wrap (a+b)=a+b:=bq aa))
 all_goals(try(have x:IntKind.i64.wrap (a-b)=a-b:=bq aa))
 all_goals(try(have A:IntKind.i64.wrap (a-b+2^w.toNat)=a-b+2^w.toNat:=bq aa))
 all_goals(try(have C:IntKind.i64.wrap (a*b)=a*b:=bq aa))
 all_goals(try(have P:IntKind.i64.wrap (2^w.toNat-1)=2^w.toNat-1:=bq aa))
 all_goals(try(have N:IntKind.i64.wrap (2^w.toNat-1-a)=2^w.toNat-1-a:=bq aa))
 all_goals(try(have L:IntKind.i64.wrap (2-a)=2-a:=bq aa))
 all_goals(try(have D:=OQ (a:=a) (b:=b) aa aa))
 all_goals(try(have z:=QQ (a:=a) (b:=b) aa aa))
 all_goals(try(have B:=MG (a:=a) (b:=b) aa aa))
 all_goals(try(rcases f rfl with f | f<;>simp only[c8]at f<;>subst f))
 all_goals simp -dsimp only[go_sem,seval, *]
 all_goals repeat'(refine bu ?_ ?_<;>intro h)
 all_goals(try(simp[rR,opv,go_sem, *];done))
 all_goals(try(simp only[rR,opv,go_sem];grind))
end Rg
end
section
-- FULL
-- APPS
namespace Rg
open Go
namespace Expr
mutual
def ev (c a:List Int):Expr->Int
 | .mk op w n e=>if op=1 then n else if op=2 then atI a n % 2^w.toNat else if op=3 then atI c n % 2^w.toNat
   else opv op w ((evs c a e).getD 0 0) ((evs c a e).getD 1 0) ((evs c a e).getD 2 0)
def evs (c a:List Int):List Expr->List Int
 | []=>[]
 | e::r=>ev c a e::evs c a r
end
theorem iS (c a:List Int): ∀l:List Expr,evs c a l=l.map (ev c a)
 | []=>rfl
 | e::r=>by rw[evs,iS c a r];rfl
theorem ev_eq (c a:List Int) (e:Expr):ev c a e=if e.op=1 then e.n else if e.op=2 then atI a e.n % 2^e.w.toNat else if e.op=3 then atI c e.n % 2^e.w.toNat
 else opv e.op e.w ((e.kids.map (ev c a)).getD 0 0) ((e.kids.map (ev c a)).getD 1 0) ((e.kids.map (ev c a)).getD 2 0):=by
 cases e;simp only[ev,iS,op,w,n,kids];rfl
end Expr
theorem kF {d:Nat} {e:Expr} (h:e.deep d=true):cv e=true:=by
 cases d with
 | zero=>simp[Expr.deep]at h
 | succ d=>simp only[Expr.deep,zF]at h;exact h.1
theorem kD {d:Nat} {e k:Expr} (h:e.deep (d+1)=true) (a:k∈e.kids):k.deep d=true:=by
 simp only[Expr.deep,zF,zN]at h;exact h.2 k a
theorem sx {e:Expr} (h:cv e=true):1<=e.w/\e.w<=8:=by
 unfold cv at h;grind
theorem mt {e:Expr} (h:cv e=true):cS e.op=(e.kids.length:Int):=by
 unfold cv at h;grind
theorem Zf {a b:Nat} {k:Nat} (c:a<2^k):a&&& b<2^k:=pR Nat.and_le_left c
theorem tP (g f:List Int) (d:Nat): ∀e:Expr,e.deep d=true->0<=e.ev g f/\e.ev g f<2^e.w.toNat:=by
 induction d with
 | zero=>intro e h;simp[Expr.deep]at h
 | succ d B=>
   intro e h;have j:=kF h;have H:=sx j;have t:=mt j;have m: ∀k∈e.kids,0<=k.ev g f/\k.ev g f<2^k.w.toNat:=fun k m=>B k (kD h m)
   have A:=iG e.w.toNat;have D:(2:Int)<=2^e.w.toNat:=by have:=kQ (i:=1) (k:=e.w.toNat) aa;simpa using this
   rw[Expr.ev_eq];obtain⟨op,w,n,C⟩:=e;simp only[Expr.op_mk,Expr.w_mk,Expr.n_mk,Expr.kids_mk]at *;have o: ∀a:Int,0<=a % 2^w.toNat/\a % 2^w.toNat<2^w.toNat:=fun a=>⟨vJ _ aa,Int.emod_lt_of_pos _ A⟩
   have E:((2^w.toNat:Nat):Int)=2^w.toNat:=af
   rcases nA op with rfl | rfl | rfl | rfl | rfl | rfl | rfl | rfl | rfl | rfl | rfl | rfl | rfl | rfl | v
   rotate_right
   ·rw[pb v]at t;omega
   all_goals(
    rcases C with _ | ⟨a,_ | ⟨b,_ | ⟨c,_ | ⟨d,r⟩⟩⟩⟩
    all_goals(try(exfalso;simp[cS]at t;(try omega);done)))
   all_goals(try(have q:=m a af))
   all_goals(try(have s:=m b af))
   all_goals(try(have z:=m c af))
   all_goals simp[cv,Expr.kw,go_sem,cS]at j
   all_goals simp[opv,go_sem]
   ·exact pW j.2
   ·exact o _
   ·exact o _
   ·rw[j.2.2]at q;omega
   ·rw[j.2.2.1]at q;have:=Zf (b:=(b.ev g f).toNat) (k:=w.toNat) (show(a.ev g f).toNat<2^w.toNat from aa);omega
   ·rw[j.2.2.1]at q;rw[j.2.2.2]at s;have:=Nat.or_lt_two_pow (n:=w.toNat) (x:=(a.ev g f).toNat) (y:=(b.ev g f).toNat) aa aa;omega
   ·rw[j.2.2.1]at q;rw[j.2.2.2]at s;have:=Nat.xor_lt_two_pow (n:=w.toNat) (x:=(a.ev g f).toNat) (y:=(b.ev g f).toNat) aa aa;omega
   ·exact o _
   ·exact o _
   ·exact o _
   ·split<;>omega
   ·split<;>omega
   ·split<;>omega
   ·rw[j.2.2.2.1]at s;rw[j.2.2.2.2]at z;split<;>omega
theorem Q0 {d:Nat} {e:Expr} (g f:List Int) (h:e.deep (d+1)=true):Sc e (e.kids.map (Expr.ev g f)):=by
 have j:=kF h;refine⟨j,af,?_,?_⟩
 ·intro x t;obtain⟨k,o,rfl⟩:=df.1 t;have m:=tP g f d k (kD h o);have y:=sx (kF (kD h o));have z:=kQ (i:=k.w.toNat) (k:=8) aa;omega
 ·intro q;have s:=mt j;obtain⟨op,w,n,v⟩:=e;simp only[Expr.op_mk,Expr.kids_mk]at *;subst q;rcases v with _ | ⟨a,_ | ⟨b,_ | ⟨c,_ | ⟨d,r⟩⟩⟩⟩
  all_goals(try(exfalso;simp[cS]at s;(try omega);done))
  have m:=tP g f _ a (kD h (by simp[Expr.kids_mk]));simp[cv,Expr.kw,go_sem,cS]at j;rw[j.2.2.1,show(2:Int)^(Int.toNat 1)=2 from rfl]at m;show _\/_;simp only[aT,c8];omega
theorem kcI {e:Expr} (c a:List Int) (f:e.op≠2/\e.op≠3):rR e (e.kids.map (Expr.ev c a))=e.ev c a:=by
 rw[Expr.ev_eq,rR,ac f.1,ac f.2]
set_option maxHeartbeats 2000000 in
theorem Yj (g f:List Int) (d:Nat): ∀e:Expr,e.deep d=true->Den Γ G 90 [(.agg [.t (ti (e).op),.t (ti (e).w),.t (ti (e).n),.t (.sl ((e).kids.map (Expr.enc)))]),.t (ints g),.t (ints f)]=some (vi (e.ev g f)):=by
 induction d with
 | zero=>intro e h;simp[Expr.deep]at h
 | succ d B=>
   intro e h;have t:=kF h;have E:=sx t;have x:=pJ t;have D:=mt t;have z:=nP t
   (refine nN Γ90 rfl ?_;dsimp only[f90])
   by_cases q:e.op=2
   ·have o:=SI f e.n x;have w:=ss (atI f e.n) e.w aa;simp -dsimp [go_sem,aZ,q,o,w];rw[Expr.ev_eq,ac aa,ah q]
   ·by_cases o:e.op=3
    ·have y:=SI g e.n x;have w:=ss (atI g e.n) e.w aa;simp -dsimp [go_sem,aZ,o,y,w];rw[Expr.ev_eq,ac aa,ac q,ah o]
    ·have j:=Zd e (e.kids.map (Expr.ev g f)) (Q0 g f h) ⟨q,o⟩;rw[kcI g f ⟨q,o⟩]at j;have m: ∀k∈e.kids,Den Γ G 90 [(.agg [.t (ti (k).op),.t (ti (k).w),.t (ti (k).n),.t (.sl ((k).kids.map (Expr.enc)))]),.t (ints g),.t (ints f)]=some (vi (k.ev g f)):=fun k m=>B k (kD h m)
     simp -dsimp [go_sem,aZ,q,o]
     generalize i:e.kids=C at *
     rcases C with _ | ⟨a,_ | ⟨b,_ | ⟨c,_ | ⟨d,r⟩⟩⟩⟩
     ·simp only[ints,be]at j;refine bK ?_;simp -dsimp [go_sem,aZ,i,j]
     ·have s:=m a af;simp only[ints,be,aT,Expr.enc_eq]at j;refine bK ?_;simp -dsimp [go_sem,aZ,i,s];refine bK ?_;simp -dsimp [go_sem,aZ,i,j]
     ·have s:=m a af;have v:=m b af;simp only[ints,be,aT,Expr.enc_eq]at j;refine bK ?_;simp -dsimp [go_sem,aZ,i,s];refine bK ?_;simp -dsimp [go_sem,aZ,i,v];refine bK ?_;simp -dsimp [go_sem,aZ,i,j]
     ·have s:=m a af;have v:=m b af;have A:=m c af;simp only[ints,be,aT,Expr.enc_eq]at j;refine bK ?_;simp -dsimp [go_sem,aZ,i,s];refine bK ?_;simp -dsimp [go_sem,aZ,i,v];refine bK ?_;simp -dsimp [go_sem,aZ,i,A];refine bK ?_;simp -dsimp [go_sem,aZ,i,j]
     ·exfalso;simp at z
def Expr.eval (e:Expr) (c a:List Int):Int:=if e.formed then e.ev c a else 0
theorem nv {e:Expr} (h:e.formed=true):e.deep 40=true:=by
 simp only[Expr.formed,zF]at h;exact h.2
theorem xp (e:Expr) (f c:List Int):Den Γ G 69 [(.agg [.t (ti (e).op),.t (ti (e).w),.t (ti (e).n),.t (.sl ((e).kids.map (Expr.enc)))]),.t (ints f),.t (ints c)]=some (vi (e.eval f c)):=by
 refine aD (q:=?_)
 have g:=xN e
 by_cases a:e.formed=true
 ·have i:=Yj f c 40 e (nv a);refine Vd @aZ.eq_1 g i a ?_;simp[Expr.eval,a]
 ·have a:e.formed=false:=ak a
  refine zR @aZ.eq_1 g a ?_;simp[Expr.eval,a]
theorem r6 (n w:Int):Den Γ G 61 [vi n,vi w]=some (.agg [.t (ti (Expr.mk 1 w n []).op),.t (ti (Expr.mk 1 w n []).w),.t (ti (Expr.mk 1 w n []).n),.t (.sl ((Expr.mk 1 w n []).kids.map (Expr.enc)))]):=by
 refine aD (q:=?_)
 simp -dsimp [go_sem,aZ,be,ki]
theorem kaa (n w:Int):Den Γ G 62 [vi n,vi w]=some (.agg [.t (ti (Expr.mk 2 w n []).op),.t (ti (Expr.mk 2 w n []).w),.t (ti (Expr.mk 2 w n []).n),.t (.sl ((Expr.mk 2 w n []).kids.map (Expr.enc)))]):=by
 refine aD (q:=?_)
 simp -dsimp [go_sem,aZ,be,ki]
theorem yW (op w:Int) (a b:Expr):Den Γ G 63 [vi op,vi w,(.agg [.t (ti (a).op),.t (ti (a).w),.t (ti (a).n),.t (.sl ((a).kids.map (Expr.enc)))]),(.agg [.t (ti (b).op),.t (ti (b).w),.t (ti (b).n),.t (.sl ((b).kids.map (Expr.enc)))])]=some (.agg [.t (ti (Expr.mk op w 0 [a,b]).op),.t (ti (Expr.mk op w 0 [a,b]).w),.t (ti (Expr.mk op w 0 [a,b]).n),.t (.sl ((Expr.mk op w 0 [a,b]).kids.map (Expr.enc)))]):=by
 refine aD (q:=?_)
 simp -dsimp [go_sem,aZ,be,ki]
theorem xu (a:List Expr) (ws:List Int) (q:ws.length<=3):Den Γ G 91 [.t (.sl (a.map Expr.enc)),.t (ints ws)]=some (vb (decide (a.map Expr.w=ws))):=by
 refine aD (q:=ax ?_);refine bu ?_ ?_<;>intro h
 ·have : ¬a.map Expr.w=ws:=fun c=>by have:=bz List.length c;simp at this;omega
  simp[this]
 ·have m:a.length=ws.length:=aa
  refine ba 134201456 ws.length (fun i f=>(f 14).v=vi i/\(a.take i).map Expr.w=ws.take i) rfl rfl ⟨am,af⟩ ?_;rintro i f u r bb hi ⟨k,e⟩;have o:=aC i aa;refine ar k ?_;refine bu ?_ ?_<;>intro h
  ·have g:ws[i]? =some ws[i]:=zI aa;have j:a[i]? =some a[i]:=zI aa;refine aY k g j ?_;refine bu ?_ ?_<;>intro h
   ·have : ¬a.map Expr.w=ws:=fun c=>by
     have:=bz (fun l=>l[i]?) c;simp only[zJ,g,j,cU,zA]at this;contradiction
    simp[this]
   ·refine⟨aa,al o,?_⟩;rw[bc g,bc j,dZ,e];simp[h]
  ·have:i=ws.length:=aa
   subst this;rw[bg,<- m,bg]at e;simp[e]
@[go_sem]theorem G_0:G 0=[ti 0,ti 1,ti 3,ti 7,ti 15,ti 31,ti 63,ti 127,ti 255]:=rfl
theorem p' {w:Int} (h:1<=w/\w<=8):w=1\/w=2\/w=3\/w=4\/w=5\/w=6\/w=7\/w=8:=aa
theorem OP {op:Int} (h:5<=op/\op<=13):cS op=2:=by unfold cS;grind
theorem pA (op w n:Int) (a:List Expr):cv (.mk op w n a)=
 if cS op≠a.length\/w<1\/w>8 then false
 else if op=1 then decide (0<=n/\n<2^w.toNat)
 else if op=2\/op=3 then decide (0<=n/\n<32)
 else if op=4 then decide (n=0/\(Expr.mk op w n a).kw 0=w)
 else if op=11\/op=12\/op=13 then decide (n=0/\w=1/\(Expr.mk op w n a).kw 0=(Expr.mk op w n a).kw 1)
 else if op=14 then decide (n=0/\(Expr.mk op w n a).kw 0=1/\(Expr.mk op w n a).kw 1=w/\(Expr.mk op w n a).kw 2=w)
 else decide (n=0/\(Expr.mk op w n a).kw 0=w/\(Expr.mk op w n a).kw 1=w):=rfl
theorem qO (op w n:Int) (a:Expr) (r:List Expr):(Expr.mk op w n (a::r)).kw 0=a.w:=rfl
theorem rS (op w n:Int) (a b:Expr) (r:List Expr):(Expr.mk op w n (a::b::r)).kw 1=b.w:=rfl
theorem Uz (op w n:Int) (a b c:Expr) (r:List Expr):(Expr.mk op w n (a::b::c::r)).kw 2=c.w:=rfl
theorem jp {op w n:Int} {e:List Expr} (h:5<=op/\op<=10) (f:1<=w/\w<=8):cv (.mk op w n e)=decide (n=0/\e.map Expr.w=[w,w]):=by
 rw[pA,OP (show 5<=op/\op<=13 from aa),ac (show ¬op=1 from aa),ac (show ¬(op=2\/op=3) from aa),ac (show ¬op=4 from aa),ac (show ¬(op=11\/op=12\/op=13) from aa),ac (show ¬op=14 from aa)];rcases e with _ | ⟨a,_ | ⟨b,_ | ⟨c,r⟩⟩⟩
 ·rw[ah af];simp
 ·rw[ah af];simp
 ·rw[ac (by simp;omega),qO,rS];simp
 ·rw[ah (by simp;omega)];simp
theorem p_ {op w n:Int} {a:List Expr} (h:11<=op/\op<=13) (e:1<=w/\w<=8):cv (.mk op w n a)=decide (n=0/\w=1/\a.length=2/\(Expr.mk op w n a).kw 0=(Expr.mk op w n a).kw 1):=by
 rw[pA,OP (show 5<=op/\op<=13 from aa),ac (show ¬op=1 from aa),ac (show ¬(op=2\/op=3) from aa),ac (show ¬op=4 from aa),ah (show(op=11\/op=12\/op=13) from aa)]
 by_cases c:a.length=2
 ·rw[ac aa];simp[c]
 ·rw[ah aa];simp[c]
theorem Kc {w n:Int} {c:List Expr} (e:1<=w/\w<=8):cv (.mk 4 w n c)=decide (n=0/\c.map Expr.w=[w]):=by
 rw[pA,show cS 4=1 from rfl,ac (show ¬(4:Int)=1 from aa),ac (show ¬((4:Int)=2\/(4:Int)=3) from aa),ah rfl];rcases c with _ | ⟨a,_ | ⟨b,r⟩⟩
 ·rw[ah af];simp
 ·rw[ac (by simp;omega),qO];simp
 ·rw[ah (by simp;omega)];simp
theorem KM {w n:Int} {e:List Expr} (f:1<=w/\w<=8):cv (.mk 14 w n e)=decide (n=0/\e.map Expr.w=[1,w,w]):=by
 rw[pA,show cS 14=3 from rfl,ac (show ¬(14:Int)=1 from aa),ac (show ¬((14:Int)=2\/(14:Int)=3) from aa),ac (show ¬(14:Int)=4 from aa),ac (show ¬((14:Int)=11\/(14:Int)=12\/(14:Int)=13) from aa),ah rfl];rcases e with _ | ⟨a,_ | ⟨b,_ | ⟨c,_ | ⟨d,r⟩⟩⟩⟩
 ·rw[ah af];simp
 ·rw[ah af];simp
 ·rw[ah af];simp
 ·rw[ac (by simp;omega),qO,rS,Uz];simp
 ·rw[ah (by simp;omega)];simp
theorem tm {op w n:Int} {e:List Expr} (h:1<=op/\op<=3) (g:1<=w/\w<=8):cv (.mk op w n e)=decide (e.length=0/\0<=n/\(if op=1 then n<2^w.toNat else n<32)):=by
 have f:cS op=0:=by unfold cS;rw[ah h]
 rw[pA,f]
 by_cases c:e.length=0
 ·rw[ac aa]
  by_cases a:op=1
  ·simp[a,c]
  ·rw[ac a,ah aa];simp[a,c]
 ·rw[ah aa];simp[c]
theorem KN {op w n:Int} {a:List Expr} (h:op<1\/14<op):cv (.mk op w n a)=false:=by
 rw[pA,pb h,ah aa]
theorem YM {op w n:Int} {f:List Expr} (h: ¬(1<=op/\op<=3)) (c:1<=w/\w<=8) (a: ¬n=0):cv (.mk op w n f)=false:=by
 rcases nA op with rfl | rfl | rfl | rfl | rfl | rfl | rfl | rfl | rfl | rfl | rfl | rfl | rfl | rfl | e
 ·omega
 ·omega
 ·omega
 ·rw[Kc c];simp[a]
 ·rw[jp aa c];simp[a]
 ·rw[jp aa c];simp[a]
 ·rw[jp aa c];simp[a]
 ·rw[jp aa c];simp[a]
 ·rw[jp aa c];simp[a]
 ·rw[jp aa c];simp[a]
 ·rw[p_ aa c];simp[a]
 ·rw[p_ aa c];simp[a]
 ·rw[p_ aa c];simp[a]
 ·rw[KM c];simp[a]
 ·exact KN e
set_option maxHeartbeats 4000000 in
theorem Xy (e:Expr):Den Γ G 71 [.t (.ip [ti e.op,ti e.w,ti e.n,.sl (e.kids.map Expr.enc)])]=some (vb (cv e)):=by
 obtain⟨op,w,n,m⟩:=e;simp only[Expr.op_mk,Expr.w_mk,Expr.n_mk,Expr.kids_mk]
 refine aD (q:=?_)
 by_cases i:1<=w/\w<=8
 ·have f: ¬w<1:=aa
  have g: ¬w>8:=aa
  have o:=xu m [w] af;have k:=xu m [w,w] af;have q:=xu m [1,w,w] af;simp only[ints,aT,be]at o k q
  by_cases s:op=1
  ·subst s;rw[tm aa i];clear o k q;rcases p' i with rfl | rfl | rfl | rfl | rfl | rfl | rfl | rfl
   all_goals(
    refine ax ?_
    repeat'(refine bu ?_ ?_<;>intro h)
    all_goals((try simp only[Int.reduceToNat,Int.reducePow,Int.reduceEq,reduceIte]);first | exact(nk aa).symm | (simp;done) | (apply sK.2;omega)))
  ·by_cases A:op=2\/op=3
   ·rw[tm aa i];clear o k q;rcases A with rfl | rfl
    all_goals(
     refine aG f g ?_
     repeat'(refine bu ?_ ?_<;>intro h)
     all_goals((try simp only[Int.reduceEq,reduceIte]);first | exact(nk aa).symm | (simp;done) | (apply sK.2;omega)))
   ·have x: ¬op=2:=aa
    have y: ¬op=3:=aa
    by_cases j:n=0
    ·rcases nA op with rfl | rfl | rfl | rfl | rfl | rfl | rfl | rfl | rfl | rfl | rfl | rfl | rfl | rfl | z
     ·omega
     ·omega
     ·omega
     ·rw[Kc i];exact jR f g j o
     ·rw[jp aa i];exact jR f g j k
     ·rw[jp aa i];exact jR f g j k
     ·rw[jp aa i];exact jR f g j k
     ·rw[jp aa i];exact jR f g j k
     ·rw[jp aa i];exact jR f g j k
     ·rw[jp aa i];exact jR f g j k
     ·rw[p_ aa i];rcases m with _ | ⟨a,_ | ⟨b,_ | ⟨c,r⟩⟩⟩
      all_goals(
       refine aY f g j ?_
       repeat'(refine bu ?_ ?_<;>intro h)
       all_goals(simp[qO,rS, *])
       all_goals(first | rfl | omega))
     ·rw[p_ aa i];rcases m with _ | ⟨a,_ | ⟨b,_ | ⟨c,r⟩⟩⟩
      all_goals(
       refine aY f g j ?_
       repeat'(refine bu ?_ ?_<;>intro h)
       all_goals(simp[qO,rS, *])
       all_goals(first | rfl | omega))
     ·rw[p_ aa i];rcases m with _ | ⟨a,_ | ⟨b,_ | ⟨c,r⟩⟩⟩
      all_goals(
       refine aY f g j ?_
       repeat'(refine bu ?_ ?_<;>intro h)
       all_goals(simp[qO,rS, *])
       all_goals(first | rfl | omega))
     ·rw[KM i];exact jR f g j q
     ·rw[KN z];have B: ¬op=4:=aa
      have C: ¬op=5:=aa
      have D: ¬op=6:=aa
      have E: ¬op=7:=aa
      have H: ¬op=8:=aa
      have I: ¬op=9:=aa
      have J: ¬op=10:=aa
      have K: ¬op=11:=aa
      have L: ¬op=12:=aa
      have t: ¬op=13:=aa
      have v: ¬op=14:=aa
      simp -dsimp only[go_sem,seval,f,g,j,s,x,y,B,C,D,E,H,I,J,K,L,t,v]
    ·rw[YM aa i j];exact po f g s x y j
 ·by_cases f:w<1
  ·refine ar f ?_;simp only[cv,go_sem];grind
  ·have g:w>8:=aa
   refine aG f g ?_;simp only[cv,go_sem];grind
theorem uj {α:Type} (f:Nat->α) (i:Nat) (v w:α):updC (updC f i v) i w=updC f i w:=by
 rw[ce];funext j;unfold upd;split<;>rfl
def US (h:ae) (c:Nat) (v:V) (e:Expr):Prop:=
 v= .t (.ip [ti e.op,ti e.w,ti e.n,.sl (e.kids.map Expr.enc)])\/
 ∃k a,v= .mp k 0 0/\k≠c/\h k=some (.rows 4 [[.t (ti e.op),.t (ti e.w),.t (ti e.n),.t (.sl (e.kids.map Expr.enc))]] a)
theorem Yi (d:Nat): ∀(e:Expr) (v:V) (c:Int) (H:ae) (n g kv:Nat) (o:Bool),
 d<=40->US H g v e->0<=c->c<=600->kv≠g->H g=some (.rows 1 [[vi c]] false)->H kv=some (.rows 1 [[.fn 70 [] [.mp g 0 0,.mp kv 0 0]]] o)->
 ∃r h' N,DenR Γ G 70 [v,vi (41-d),.mp g 0 0,.mp kv 0 0] H n=some (r,h',N)/\
  r=vb (e.deep d&&decide (c+e.size<=600))/\ ∃a:Int,h'=updC H g (some (.rows 1 [[vi a]] false))/\(e.deep d=true->c+e.size<=600->a=c+e.size):=by
 induction d with
 | zero=>
   intro e v c H n g kv o hd A X hc j t w
   refine bM (q:=?_)
   have q:IntKind.i64.wrap (c+1)=c+1:=bq aa;have z:(41-((0:Nat):Int))>40:=aa
   rcases A with rfl | ⟨k,fk,rfl,K,P⟩
   all_goals(
    refine aY t q z ?_
    repeat'(refine bu ?_ ?_<;>intro h)
    all_goals(exact⟨by simp -dsimp only[go_sem,seval,Expr.deep,ig],c+1,am,by simp[Expr.deep]⟩))
 | succ d ih=>
   intro e v c H n g kv o hd A X hc j t w
   refine bM (q:=?_)
   have q:IntKind.i64.wrap (c+1)=c+1:=bq aa;have z: ¬(41-((d+1:Nat):Int))>40:=aa
   have S:IntKind.i64.wrap (41-((d+1:Nat):Int)+1)=41-(d:Int):=by rw[bq aa];omega
   have Bo:=Xy e;have AS:=Expr.size_eq e;have CB:=Expr.size_pos e;rcases A with rfl | ⟨k,fk,rfl,K,P⟩
   all_goals(
    have D:=q
    (try have D:=K)
    refine aY t q z ?_;refine bu ?_ ?_<;>intro h
    ·refine⟨?_,c+1,am,fun _ C=>aa⟩;refine ax ?_;have : ¬(c+(e.size:Int)<=600):=aa
     simp[this]
    ·refine bu ?_ ?_<;>intro h
     ·refine⟨?_,c+1,am,fun m=>by rw[kF m]at h;simp at h⟩;refine ax ?_;simp[Expr.deep,h]
     ·have Ac:=nP h
      refine aS 2198956146880 e.kids.length (fun i f J x=>(f 26).v=vi i/\ ∃a:Int,J=updC H g (some (.rows 1 [[vi a]] false))/\a=c+1+((e.kids.take i).map Expr.size).sum/\a<=600/\(e.kids.take i).all (Expr.deep d)=true) rfl
       ⟨am,c+1,am,af,aa,af⟩ ?_
      rintro i f u J x bs hi ⟨E,a,rfl,U,C,s⟩;have R:=aC i aa;refine ar E ?_;refine bu ?_ ?_<;>intro h
      ·obtain⟨y,B,L⟩:=aw ‹i<e.kids.length›;refine cw E B j w S D ?_;refine bf (ih y _ a _ _ g kv o aa (.inl rfl) aa C j (by rw[aq];simp) (by rw[aq];simp[j,w])) ?_;rintro r h' N ⟨rfl,I,rfl,W⟩;refine ax ?_;have FR:=Expr.take_le_size e.kids (i+1)
       have Hw:((e.kids.take (i+1)).map Expr.size).sum=((e.kids.take i).map Expr.size).sum+y.size:=by
        rw[bc B];simp
       refine bu ?_ ?_<;>intro h
       ·refine⟨?_,I,al @uj,fun m Y=> ?_⟩
        ·refine ax ?_;simp only[lj,ek]at h;rcases h with h | h
         ·rw[Expr.deep,o8 L h];simp
         ·have : ¬c+(e.size:Int)<=600:=aa
          simp[this]
        ·have Z:=kD m L;have:a+(y.size:Int)<=600:=aa
         simp[Z,this]at h
       ·simp only[zF,aR]at h;have h2:=W h.1 h.2;exact⟨aa,al R,I,al @uj,aa,aa,tj B s h.1⟩
      ·have:i=e.kids.length:=aa
       subst this;rw[bg]at s U;refine⟨?_,a,am,fun m Y=>aa⟩;refine ax ?_;have:c+(e.size:Int)<=600:=aa
       simp[Expr.deep,s,this,‹cv e=true›])
theorem wW (e:Expr):Den Γ G 51 [(.agg [.t (ti (e).op),.t (ti (e).w),.t (ti (e).n),.t (.sl ((e).kids.map (Expr.enc)))])]=some (vb e.formed):=by
 refine aD (q:=ax ?_);refine bf (Yi 40 e _ 0 _ _ _ _ false aa (.inr ⟨_,false,rfl,?_,?_⟩) aa aa ?_ ?_ ?_) ?_
 ·decide
 ·exact am
 ·decide
 ·exact am
 ·exact am
 ·rintro r h' c ⟨rfl,a,rfl,_⟩;refine ax ?_;simp only[Expr.formed];rw[Bool.and_comm]
  congr 1
  by_cases h:e.size<=600
  ·simp[h];omega
  ·simp[h];omega
end Rg
end
