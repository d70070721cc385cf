/- Part of the proof of laws of relyguardlaw36. No condition. -/
import Derived.Test.YtaiokglcgiemnaaGreatDoorGartAJ
import Derived.Stop.Joined
import Derived.ProofKit
import Derived.LaidMore
import Derived.Test.YtaiokglcgiemnaaGreatDoorGartAI
import Derived.Test.YtaiokglcgiemnaaGreatDoorGartAH
set_option linter.unusedSimpArgs false
set_option linter.unusedVariables false
set_option linter.defProp false
section
namespace Rg
open Go
section
variable {Γ:Nat->Option F} {G:Nat->List T}
variable (G) in
def oy (sl:Nat->Slot):List V->List (Nat×Nat×Opd)->Option (List V)
 | cs,[]=>some cs
 | cs,(off,k,x)::r=>ob (aE G sl x) (fun v=>ob v.cells (fun a=>if a.length=k then ob (wr cs off a) (fun cs'=>oy sl cs' r) ⟨0⟩else none) ⟨0⟩) ⟨0⟩
@[go_sem ↓]theorem zxx (sl:Nat->Slot) (cs:List V):oy G sl cs []=some cs:=rfl
@[go_sem ↓]theorem YE (sl:Nat->Slot) (cs:List V) (c k:Nat) (x:Opd) (r:List (Nat×Nat×Opd)):
 oy G sl cs ((c,k,x)::r)=ob (aE G sl x) (fun v=>ob v.cells (fun a=>if a.length=k then ob (wr cs c a) (fun cs'=>oy G sl cs' r) ⟨0⟩else none) ⟨0⟩) ⟨0⟩:=rfl
theorem NB (sl:Nat->Slot) (u:Nat->Bool) (h:ae) (n b:Nat): ∀(r:List (Nat×Nat×Opd)) (cs:List V),jf G cs (M.st ⟨sl,u,h,n,b⟩) r=oy G sl cs r
 | [],cs=>rfl
 | (off,k,x)::r,cs=>by
   rw[jf,YE,bQ];simp only[ob,zC]
   congr 1;funext v;congr 1;funext new
   split
   ·congr 1;funext cs';exact NB sl u h n b r cs'
   ·rfl
variable (G) in
def ox (sl:Nat->Slot) (c:Nat):List (List V)->List (Nat×Opd)->Option (List (List V))
 | rs,[]=>some rs
 | rs,(i,x)::r=>ob (aE G sl x) (fun v=>ob v.cells (fun a=>if a.length=c/\i<rs.length then ox sl c (rs.set i a) r else none) ⟨0⟩) ⟨0⟩
@[go_sem ↓]theorem zxw (sl:Nat->Slot) (a:Nat) (rs:List (List V)):ox G sl a rs []=some rs:=rfl
@[go_sem ↓]theorem YD (sl:Nat->Slot) (c:Nat) (rs:List (List V)) (i:Nat) (x:Opd) (r:List (Nat×Opd)):
 ox G sl c rs ((i,x)::r)=ob (aE G sl x) (fun v=>ob v.cells (fun a=>if a.length=c/\i<rs.length then ox G sl c (rs.set i a) r else none) ⟨0⟩) ⟨0⟩:=rfl
theorem NA (sl:Nat->Slot) (u:Nat->Bool) (h:ae) (n b a:Nat): ∀(r:List (Nat×Opd)) (rs:List (List V)),jx G rs a (M.st ⟨sl,u,h,n,b⟩) r=ox G sl a rs r
 | [],rs=>rfl
 | (i,x)::r,rs=>by
   rw[jx,YD,bQ];simp only[ob,zC]
   congr 1;funext v;congr 1;funext new
   split
   ·exact NA sl u h n b a r _
   ·rfl
variable (G) in
def iW (sl:Nat->Slot) (d:Nat):Option Opd->Option Int
 | none=>some d
 | some x=>ob (aE G sl x) eF ⟨0⟩
@[go_sem ↓]theorem zCI (sl:Nat->Slot) (d:Nat):iW G sl d none=some (d:Int):=rfl
@[go_sem ↓]theorem zCH (sl:Nat->Slot) (d:Nat) (x:Opd):iW G sl d (some x)=ob (aE G sl x) eF ⟨0⟩:=rfl
theorem SO (sl:Nat->Slot) (u:Nat->Bool) (h:ae) (n b d:Nat) (x:Option Opd):eY G (M.st ⟨sl,u,h,n,b⟩) d x=iW G sl d x:=by
 cases x with
 | none=>rfl
 | some x=>simp only[eY,lI,iW,ob]
def qx (h:ae) (a:Nat) (lo hi:Int):V->Option V
 | .ms k i _=>match h k with
   | some (.rows sz' rs _)=>if sz'=a/\0<=lo/\lo<=hi/\(i:Int)+hi<=rs.length then some (.ms k (i+lo.toNat) (hi-lo).toNat)else none
   | _=>none
 | _=>none
def yr (h:ae) (a n:Nat) (lo hi:Int) (v:V):Option V:=
 if 0<=lo/\lo<=hi/\hi<=n then
  match v with
  | .t .nils=>some (.t .nils)
  | .t (.sl es)=>if es.all (·.length=a)then some (.t (.sl ((es.drop lo.toNat).take (hi-lo).toNat)))else none
  | .ms k i _=>match h k with
    | some (.rows sz' _ _)=>if sz'=a then some (.ms k (i+lo.toNat) (hi-lo).toNat)else none
    | _=>none
  | _=>none
 else qx h a lo hi v
def U8:V->Option ByteArray
 | .t (.str b)=>some b
 | _=>none
def SJ:V->Option V
 | .t .nils=>some (.t .nils)
 | .t (.sl [])=>some (.t (.slc []))
 | .t (.sl (_::_))=>some (.t .nils)
 | .ms _ _ _=>some (.t .nils)
 | _=>none
attribute [go_sem] yr U8 SJ sD
variable (d:Bool) (p:Nat) (l:List ROp) (Q:M->Prop) (sl:Nat->Slot) (u:Nat->Bool) (h:Nat->Option O) (n b:Nat)
@[go_sem ↓]theorem zBa (t:Nat) (z:List V) (a:List (Nat×Nat×Opd)) (w:W4 _ _ _ _):
 wO Γ G d p (⟨none,some t,.build z a⟩::l) Q ⟨sl,u,h,n,b⟩ w=bt (u t) (ob (oy G sl z a) (fun cs=>some (.agg cs)) ⟨0⟩) (fun v=>wO Γ G d (p+1) l Q ⟨updC sl t ⟨v,none,none⟩,u,h,n,b⟩ ⟨0⟩) ⟨0⟩:=by
 refine dA rfl ?_;simp only[ao,NB,ob];cases oy G sl z a<;>rfl
@[go_sem ↓]theorem zAX (t:Nat) (e:Nat) (x:Opd) (lo hi:Option Opd) (w:W4 _ _ _ _):
 wO Γ G d p (⟨none,some t,.slice e x lo hi none⟩::l) Q ⟨sl,u,h,n,b⟩ w=bt (u t) (ob (aE G sl x) (fun v=>ob (lenS h v) (fun k=>ob (iW G sl k hi) (fun c=>ob (iW G sl 0 lo) (fun a=>yr h e k a c v) ⟨0⟩) ⟨0⟩) ⟨0⟩) ⟨0⟩) (fun v=>wO Γ G d (p+1) l Q ⟨updC sl t ⟨v,none,none⟩,u,h,n,b⟩ ⟨0⟩) ⟨0⟩:=by
 refine dA rfl ?_;simp only[ao,bQ,ob,yN,SO]
 cases aE G sl x with
 | none=>rfl
 | some v=>
   simp only[zC,zD]
   cases lenS h v with
   | none=>rfl
   | some k=>
     simp only[zD]
     cases iW G sl k hi with
     | none=>rfl
     | some c=>
       simp only[zD]
       cases iW G sl 0 lo with
       | none=>rfl
       | some a=>
         simp only[zD,yr];split
         ·cases v with
          | t x=>cases x with
            | sl es=>simp only;split<;>rfl
            | _=>rfl
          | ms q i j=>
            simp only[M.st]
            cases h q with
            | none=>rfl
            | some o=>cases o with
              | rows s rs z=>simp only;split<;>rfl
              | _=>rfl
          | _=>rfl
         ·cases v with
          | ms q i j=>
            simp only[M.st,qx]
            cases h q with
            | none=>rfl
            | some o=>cases o with
              | rows s rs z=>simp only;split<;>rfl
              | _=>rfl
          | _=>rfl
@[go_sem ↓]theorem zzg (t:Nat) (e:Nat) (x:Opd) (lo:Option Opd) (hi mx:Opd) (w:W4 _ _ _ _):
 wO Γ G d p (⟨none,some t,.slice e x lo (some hi) (some mx)⟩::l) Q ⟨sl,u,h,n,b⟩ w=bt (u t) (ob (aE G sl x) (fun v=>ob (lenS h v) (fun k=>ob (iW G sl k (some hi)) (fun c=>ob (iW G sl 0 lo) (fun a=>ob (iW G sl 0 (some mx)) (fun m=>if a=0/\c=0/\m=0 then SJ v else if 0<=a/\a<=c/\c<=m/\m<=k then some (sD e v a c m k)else none) ⟨0⟩) ⟨0⟩) ⟨0⟩) ⟨0⟩) ⟨0⟩) (fun v=>wO Γ G d (p+1) l Q ⟨updC sl t ⟨v,none,none⟩,u,h,n,b⟩ ⟨0⟩) ⟨0⟩:=by
 refine dA rfl ?_;simp only[ao,bQ,ob,yN,SO,lI]
 cases aE G sl x with
 | none=>rfl
 | some v=>
   simp only[zC,zD]
   cases lenS h v with
   | none=>rfl
   | some k=>
     simp only[zD]
     cases iW G sl k (some hi)with
     | none=>rfl
     | some c=>
       simp only[zD]
       cases iW G sl 0 lo with
       | none=>rfl
       | some a=>
         simp only[zD,iW,ob]
         cases(aE G sl mx).bind eF with
         | none=>rfl
         | some m=>
           simp only[zD,qW,nt];split
           ·cases v with
            | t x=>cases x with
              | sl es=>cases es<;>rfl
              | _=>rfl
            | _=>rfl
           ·split<;>rfl
attribute [go_sem] qE fJ
@[go_sem ↓]theorem zB9 (t:Nat) (f:Nat) (x y:List Opd) (w:W4 _ _ _ _):
 wO Γ G d p (⟨none,some t,.mkfn f x y⟩::l) Q ⟨sl,u,h,n,b⟩ w=bt (u t) (ob (dY G sl x) (fun a=>ob (dY G sl y) (fun c=>qE f a c) ⟨0⟩) ⟨0⟩) (fun v=>wO Γ G d (p+1) l Q ⟨updC sl t ⟨v,none,none⟩,u,h,n,b⟩ ⟨0⟩) ⟨0⟩:=by
 refine dA rfl ?_;simp only[ao,oe,ob]
 cases dY G sl x with
 | none=>rfl
 | some a=>
   simp only[zC,zD]
   cases dY G sl y with
   | none=>rfl
   | some c=>simp only[zD];(cases qE f a c<;>rfl)
@[go_sem ↓]theorem zzu (t:Nat) (cs:List V) (w:W4 _ _ _ _):
 wO Γ G d p (⟨none,some t,.allocH cs⟩::l) Q ⟨sl,u,h,n,b⟩ w=eE (u t) (some (V.mp (b+p) 0 0,[(b+p,O.rows cs.length [cs] false)])) (fun v hp=>wO Γ G d (p+1) l Q ⟨updC sl t ⟨v,none,none⟩,u,At h hp,n,b⟩ ⟨0⟩) ⟨0⟩:=by
 refine mZ rfl ?_;rfl
@[go_sem ↓]theorem zCo (t:Nat) (k:Nat) (x:Opd) (w:W4 _ _ _ _):
 wO Γ G d p (⟨none,some t,.boxH k x⟩::l) Q ⟨sl,u,h,n,b⟩ w=eE (u t) (ob (aE G sl x) (fun v=>ob v.cells (fun cs=>if cs.length=k then some (V.mp (b+p) 0 0,[(b+p,O.rows k [cs] false)])else none) ⟨0⟩) ⟨0⟩) (fun v hp=>wO Γ G d (p+1) l Q ⟨updC sl t ⟨v,none,none⟩,u,At h hp,n,b⟩ ⟨0⟩) ⟨0⟩:=by
 refine mZ rfl ?_;simp only[ao,bQ,ob]
 cases aE G sl x with
 | none=>rfl
 | some v=>
   simp only[zC,zD]
   cases v.cells with
   | none=>rfl
   | some cs=>simp only[zD];split<;>rfl
@[go_sem ↓]theorem zzq (t:Nat) (a len:Nat) (z:List V) (c:List (Nat×Opd)) (w:W4 _ _ _ _):
 wO Γ G d p (⟨none,some t,.bslice a len z c⟩::l) Q ⟨sl,u,h,n,b⟩ w=eE (u t) (ob (ox G sl a (List.replicate len z) c) (fun rs=>some (V.ms (b+p) 0 len,[(b+p,O.rows a rs false)])) ⟨0⟩) (fun v hp=>wO Γ G d (p+1) l Q ⟨updC sl t ⟨v,none,none⟩,u,At h hp,n,b⟩ ⟨0⟩) ⟨0⟩:=by
 refine mZ rfl ?_;simp only[ao,NA,ob];cases ox G sl a (List.replicate len z) c<;>rfl
def yq (h:ae) (k:Nat) (a:List V):V->Option (V×List (Nat×O))
 | .mp q i c=>match h q with
   | some (.rows sz rs false)=>(rs[i]?).bind fun row=>if a.length=k then(wr row c a).bind fun row'=>some (V.undef,[(q,O.rows sz (rs.set i row') false)])else none
   | _=>none
 | _=>none
def aY (h:ae) (q:Nat) (c bytes:Nat) (u:V) (a b:List (List V)):Option (V×List (Nat×O)):=
 if(a.length+b.length<=2^32/\bytes<=2^12)/\b.all (·.length=c)/\a.all (·.length=c)then
  if b.isEmpty then some (u,[])
  else match u with
   | .t .nils=>some (.ms q 0 b.length,[(q,.rows c b false)])
   | .t (.slc _)=>((a++b).mapM fJ).bind fun e=>some (.t (.sl e),[])
   | .ms k i _=>match h k with
     | some (.rows sz' rs false)=>if sz'=c/\i=0 then some (.ms q 0 (a.length+b.length),[(k,.dead),(q,.rows c (fq a b rs) false)])else none
     | _=>none
   | _=>none
 else none
@[go_sem]theorem xd {α:Type} (a b:List α):fq a b a=a++b:=ah (Nat.le_add_right _ _)
def zp (h:ae) (c:Nat) (b:List (List V)):V->Option (V×List (Nat×O))
 | .t .nils=>some (.t (.int .i64 0),[])
 | .ms k i len=>match h k with
   | some (.rows sz' rs false)=>if sz'=c/\b.all (·.length=c)then(wr rs i (b.take len)).bind fun a=>some (.t (.int .i64 (min b.length len:Nat)),[(k,.rows c a false)])else none
   | _=>none
 | _=>none
def wW (h:ae):V->Option (List (T×V))
 | .t .nilm=>some []
 | .mm j=>match h j with
   | some (.map es)=>some es
   | _=>none
 | _=>none
def yA (h:ae) (c:T) (x:V):V->Option (V×List (Nat×O))
 | .mm j=>match h j with
   | some (.map es)=>(da c x es).bind fun a=>if x.one then some (V.undef,[(j,.map a)])else none
   | _=>none
 | _=>none
def uO (h:ae) (c:Nat) (zero:List V):V->Option (V×List (Nat×O))
 | .t .nils=>some (.tup [],[])
 | .ms k i len=>match h k with
   | some (.rows sz' rs false)=>if sz'=c/\zero.length=c then(wr rs i (List.replicate len zero)).bind fun a=>some (.tup [],[(k,.rows c a false)])else none
   | _=>none
 | _=>none
attribute [go_sem] yq zp wW yA uO
theorem kax (sl:Nat->Slot) (u:Nat->Bool) (h:ae) (n b p a:Nat) (z:List V) (x:Opd):
 ao G p (M.st ⟨sl,u,h,n,b⟩) (.clear a z x)=(ob (aE G sl x) (uO h a z) ⟨0⟩).map fun v=>({ val:=v.1,hp:=v.2 }:Eff):=by
 simp only[ao,bQ,ob]
 cases aE G sl x with
 | none=>rfl
 | some v=>cases v with
   | t x=>cases x<;>rfl
   | ms k i len=>
     simp only[zC,zD,uO,M.st]
     cases h k with
     | none=>rfl
     | some o=>cases o with
       | rows s rs z=>cases z with
         | false=>
           simp only;split
           ·cases wr rs i (List.replicate len _)<;>rfl
           ·rfl
         | true=>rfl
       | _=>rfl
   | _=>rfl
@[go_sem ↓]theorem zzp (a:Nat) (z:List V) (x:Opd) (w:W4 _ _ _ _):
 wO Γ G d p (⟨none,none,.clear a z x⟩::l) Q ⟨sl,u,h,n,b⟩ w=eE false (ob (aE G sl x) (uO h a z) ⟨0⟩) (fun _ hp=>wO Γ G d (p+1) l Q ⟨sl,u,At h hp,n,b⟩ ⟨0⟩) ⟨0⟩:=yp rfl (kax ..)
@[go_sem ↓]theorem zAW (k:Nat) (a x:Opd) (w:W4 _ _ _ _):
 wO Γ G d p (⟨none,none,.store k a x⟩::l) Q ⟨sl,u,h,n,b⟩ w=eE false (ob (aE G sl a) (fun q=>ob (aE G sl x) (fun v=>ob v.cells (fun c=>yq h k c q) ⟨0⟩) ⟨0⟩) ⟨0⟩) (fun _ hp=>wO Γ G d (p+1) l Q ⟨sl,u,At h hp,n,b⟩ ⟨0⟩) ⟨0⟩:=by
 refine yp rfl ?_;simp only[ao,bQ,ob]
 cases aE G sl a with
 | none=>rfl
 | some q=>
   simp only[zC,zD]
   cases m:aE G sl x with
   | none=>
     cases q with
     | mp j i e=>
       simp only[M.st,sS]
       cases h j with
       | none=>rfl
       | some o=>cases o with
         | rows f rs z=>cases z with
           | false=>simp only;cases rs[i]? <;>rfl
           | true=>rfl
         | _=>rfl
     | _=>rfl
   | some v=>
     simp only[zD]
     cases g:v.cells with
     | none=>
       cases q with
       | mp j i e=>
         simp only[M.st,sS]
         cases h j with
         | none=>rfl
         | some o=>cases o with
           | rows f rs z=>cases z with
             | false=>simp only;cases rs[i]? <;>rfl
             | true=>rfl
           | _=>rfl
       | _=>rfl
     | some c=>
       cases q with
       | mp j i e=>
         simp only[M.st,zD,yq]
         cases h j with
         | none=>rfl
         | some o=>cases o with
           | rows f rs z=>cases z with
             | false=>
               simp only
               cases rs[i]? with
               | none=>rfl
               | some row=>
                 simp only[zD];split
                 ·cases wr row e c<;>rfl
                 ·rfl
             | true=>rfl
           | _=>rfl
       | _=>rfl
def zk (a bytes:Nat) (z:List V) (k:Nat) (v:V) (m:Int):Option (V×List (Nat×O)):=match v with
 | .t .nils=>if 1<=m/\m<=2^32/\bytes<=2^12/\z.length=a then some (V.ms k 0 m.toNat,[(k,O.rows a (List.replicate m.toNat z) false)])else none
 | _=>none
@[go_sem]theorem zBV (a bytes:Nat) (z:List V) (k:Nat) (m:Int):zk a bytes z k (.t .nils) m=if 1<=m/\m<=2^32/\bytes<=2^12/\z.length=a then some (V.ms k 0 m.toNat,[(k,O.rows a (List.replicate m.toNat z) false)])else none:=rfl
@[go_sem ↓]theorem zCp (t:Nat) (c bytes:Nat) (z:List V) (x y:Opd) (w:W4 _ _ _ _):
 wO Γ G d p (⟨none,some t,.appz c bytes z x y⟩::l) Q ⟨sl,u,h,n,b⟩ w=eE (u t) (ob (aE G sl y) (fun a=>ob (eF a) (fun m=>ob (aE G sl x) (fun v=>zk c bytes z (b+p) v m) ⟨0⟩) ⟨0⟩) ⟨0⟩) (fun v hp=>wO Γ G d (p+1) l Q ⟨updC sl t ⟨v,none,none⟩,u,At h hp,n,b⟩ ⟨0⟩) ⟨0⟩:=by
 refine mZ rfl ?_;simp only[ao,lI,bQ,ob]
 cases aE G sl y with
 | none=>rfl
 | some a=>
   simp only[zC,zD]
   cases eF a with
   | none=>rfl
   | some m=>
     simp only[zD]
     cases aE G sl x with
     | none=>rfl
     | some v=>cases v with
       | t x=>cases x<;>first | rfl | (simp only[zD,zk];split<;>rfl)
       | _=>rfl
@[go_sem ↓]theorem zxF (t:Nat) (a bytes:Nat) (z:List V) (x y:Opd) (w:W4 _ _ _ _):
 wO Γ G d p (⟨none,some t,.mkslice a bytes z x y⟩::l) Q ⟨sl,u,h,n,b⟩ w=eE (u t) (ob (aE G sl x) (fun v=>ob (eF v) (fun k=>ob (aE G sl y) (fun c=>ob (eF c) (fun m=>if 0<=k/\k<=m/\m<=2^32/\bytes<=2^12/\z.length=a then some (V.ms (b+p) 0 k.toNat,[(b+p,O.rows a (List.replicate k.toNat z) false)])else none) ⟨0⟩) ⟨0⟩) ⟨0⟩) ⟨0⟩) (fun v hp=>wO Γ G d (p+1) l Q ⟨updC sl t ⟨v,none,none⟩,u,At h hp,n,b⟩ ⟨0⟩) ⟨0⟩:=by
 refine mZ rfl ?_;simp only[ao,lI,ob]
 cases aE G sl x with
 | none=>rfl
 | some v=>
   simp only[zC,zD]
   cases eF v with
   | none=>rfl
   | some k=>
     simp only[zD]
     cases aE G sl y with
     | none=>rfl
     | some c=>
       simp only[zD]
       cases eF c with
       | none=>rfl
       | some m=>simp only[zD];split<;>rfl
@[go_sem ↓]theorem zzs (t:Nat) (f bytes:Nat) (x y:Opd) (w:W4 _ _ _ _):
 wO Γ G d p (⟨none,some t,.append f bytes x y⟩::l) Q ⟨sl,u,h,n,b⟩ w=eE (u t) (ob (aE G sl x) (fun v=>ob (aE G sl y) (fun e=>ob (rowsS h v) (fun a=>ob (rowsS h e) (fun c=>aY h (b+p) f bytes v a c) ⟨0⟩) ⟨0⟩) ⟨0⟩) ⟨0⟩) (fun v hp=>wO Γ G d (p+1) l Q ⟨updC sl t ⟨v,none,none⟩,u,At h hp,n,b⟩ ⟨0⟩) ⟨0⟩:=by
 refine mZ rfl ?_;simp only[ao,bQ,ob,x6]
 cases aE G sl x with
 | none=>rfl
 | some v=>
   simp only[zC,zD]
   cases aE G sl y with
   | none=>rfl
   | some e=>
     simp only[zD]
     cases rowsS h v with
     | none=>rfl
     | some a=>
       simp only[zD]
       cases rowsS h e with
       | none=>rfl
       | some c=>
         simp only[zD,aY];split
         ·split
          ·rfl
          ·cases v with
           | t z=>cases z<;>first | rfl | (cases List.mapM fJ (a++c)<;>rfl)
           | ms k i j=>
             simp only[M.st]
             cases h k with
             | none=>rfl
             | some o=>cases o with
               | rows s rs z=>cases z with
                 | false=>simp only;split<;>rfl
                 | true=>rfl
               | _=>rfl
           | _=>rfl
         ·rfl
def kct (h:ae) (f:Nat):V->Option (V×List (Nat×O))
 | .mp k i a=>match h k with
   | some (.rows sz [row] _)=>if i=0/\a=0 then(fJ row).bind fun c=>some (.t (.fn f [] [.ip c]),[(k,.rows sz [row] true)])else none
   | _=>none
 | _=>none
attribute [go_sem] kct
@[go_sem ↓]theorem zCh (t:Nat) (e:Nat) (x y:Opd) (w:W4 _ _ _ _):
 wO Γ G d p (⟨none,some t,.copy e x y⟩::l) Q ⟨sl,u,h,n,b⟩ w=eE (u t) (ob (aE G sl x) (fun v=>ob (aE G sl y) (fun a=>ob (rowsS h a) (fun c=>zp h e c v) ⟨0⟩) ⟨0⟩) ⟨0⟩) (fun v hp=>wO Γ G d (p+1) l Q ⟨updC sl t ⟨v,none,none⟩,u,At h hp,n,b⟩ ⟨0⟩) ⟨0⟩:=by
 refine mZ rfl ?_;simp only[ao,bQ,ob,x6]
 cases aE G sl x with
 | none=>rfl
 | some v=>
   simp only[zC,zD]
   cases aE G sl y with
   | none=>rfl
   | some a=>
     simp only[zD]
     cases rowsS h a with
     | none=>rfl
     | some c=>
       simp only[zD,zp]
       cases v with
       | t z=>cases z<;>rfl
       | ms k i j=>
         simp only[M.st]
         cases h k with
         | none=>rfl
         | some o=>cases o with
           | rows s rs z=>cases z with
             | false=>
               simp only;split
               ·cases wr rs i (c.take j)<;>rfl
               ·rfl
             | true=>rfl
           | _=>rfl
       | _=>rfl
@[go_sem ↓]theorem zA1 (t:Nat)  (w:W4 _ _ _ _):
 wO Γ G d p (⟨none,some t,.mkmap⟩::l) Q ⟨sl,u,h,n,b⟩ w=eE (u t) (some (V.mm (b+p),[(b+p,O.map [])])) (fun v hp=>wO Γ G d (p+1) l Q ⟨updC sl t ⟨v,none,none⟩,u,At h hp,n,b⟩ ⟨0⟩) ⟨0⟩:=by
 refine mZ rfl ?_;rfl
@[go_sem ↓]theorem zzl (t:Nat) (e:Nat) (z:V) (c:Bool) (x y:Opd) (w:W4 _ _ _ _):
 wO Γ G d p (⟨none,some t,.lookup e z c x y⟩::l) Q ⟨sl,u,h,n,b⟩ w=bt (u t) (ob (aE G sl y) (fun k=>ob (lT e k) (fun a=>ob (aE G sl x) (fun v=>ob (wW h v) (fun es=>ob (dK a es) (fun r=>some (if c then V.tup [r.getD z,.t (.bool r.isSome)]else r.getD z)) ⟨0⟩) ⟨0⟩) ⟨0⟩) ⟨0⟩) ⟨0⟩) (fun v=>wO Γ G d (p+1) l Q ⟨updC sl t ⟨v,none,none⟩,u,h,n,b⟩ ⟨0⟩) ⟨0⟩:=by
 refine dA rfl ?_;simp only[ao,bQ,ob]
 cases aE G sl y with
 | none=>rfl
 | some k=>
   simp only[zC,zD]
   cases lT e k with
   | none=>rfl
   | some a=>
     simp only[zD]
     cases aE G sl x with
     | none=>rfl
     | some v=>
       simp only[zD]
       cases v with
       | mm j=>
         simp only[wW,M.st]
         cases h j with
         | none=>rfl
         | some o=>cases o with
           | map es=>
             simp only[zD]
             cases dK a es with
             | none=>rfl
             | some r=>cases c<;>rfl
           | _=>rfl
       | t q=>cases q with
         | nilm=>cases c<;>rfl
         | _=>rfl
       | _=>rfl
@[go_sem ↓]theorem zzk (c:Nat) (x y z:Opd) (w:W4 _ _ _ _):
 wO Γ G d p (⟨none,none,.mapupd c x y z⟩::l) Q ⟨sl,u,h,n,b⟩ w=eE false (ob (aE G sl y) (fun k=>ob (lT c k) (fun a=>ob (aE G sl z) (fun r=>ob (aE G sl x) (yA h a r) ⟨0⟩) ⟨0⟩) ⟨0⟩) ⟨0⟩) (fun _ hp=>wO Γ G d (p+1) l Q ⟨sl,u,At h hp,n,b⟩ ⟨0⟩) ⟨0⟩:=by
 refine yp rfl ?_;simp only[ao,bQ,ob]
 cases aE G sl y with
 | none=>rfl
 | some k=>
   simp only[zC,zD]
   cases lT c k with
   | none=>rfl
   | some a=>
     simp only[zD]
     cases aE G sl z with
     | none=>rfl
     | some r=>
       simp only[zD]
       cases aE G sl x with
       | none=>rfl
       | some v=>
         simp only[zD]
         cases v with
         | mm j=>
           simp only[M.st,yA]
           cases h j with
           | none=>rfl
           | some o=>cases o with
             | map es=>
               simp only
               cases da a r es with
               | none=>rfl
               | some e=>simp only[zD];split<;>rfl
             | _=>rfl
         | _=>rfl
def qA (d a:Bool) (h:ae) (g:Nat) (vs:List V) (o:Option (List V)) (K:V->ae->Prop) (_:WK K):Prop:=match o with
 | none=>False
 | some rs=>match Den Γ G g rs with
   | none=>False
   | some r=>a=false/\if r.scalar then K r h else(d=true->vs.flatMap (b_ h)=[])/\K r (At h (freezes h (vs.flatMap (b_ h))))
def fY (o:Option V) (d:Bool) (h:ae) (vs:List V) (K:V->ae->Prop) (_:WK K):Prop:=match o with
 | none=>False
 | some r=>if r.scalar then K r h else(d=true->vs.flatMap (b_ h)=[])/\K r (At h (freezes h (vs.flatMap (b_ h))))
@[go_sem]theorem zyX (d:Bool) (h:ae) (g:Nat) (vs rs:List V) (K:V->ae->Prop) (w:WK K):
 qA (Γ:=Γ) (G:=G) d false h g vs (some rs) K w=fY (Den Γ G g rs) d h vs K ⟨0⟩:=by
 simp only[qA,fY]
 cases Den Γ G g rs with
 | none=>rfl
 | some r=>simp
@[go_sem]theorem zAP (k:IntKind) (n:Int) (d:Bool) (h:ae) (vs:List V) (K:V->ae->Prop) (w:WK K):fY (some (.t (.int k n))) d h vs K w=K (.t (.int k n)) h:=by
 simp[fY,V.scalar,V.scalar2,V.scalar1,T.scalar]
@[go_sem]theorem zyW (x:Bool) (d:Bool) (h:ae) (vs:List V) (K:V->ae->Prop) (w:WK K):fY (some (.t (.bool x))) d h vs K w=K (.t (.bool x)) h:=by
 simp[fY,V.scalar,V.scalar2,V.scalar1,T.scalar]
@[go_sem]theorem zAN (x:ByteArray) (d:Bool) (h:ae) (vs:List V) (K:V->ae->Prop) (w:WK K):fY (some (.t (.str x))) d h vs K w=K (.t (.str x)) h:=by
 simp[fY,V.scalar,V.scalar2,V.scalar1,T.scalar]
@[go_sem]theorem YX (r:V) (d:Bool) (h:ae) (vs:List V) (K:V->ae->Prop) (w:WK K) (c:vs.all V.tree=true):
 fY (some r) d h vs K w=K r h:=by
 have a:vs.flatMap (b_ h)=[]:=by
  simp only[no];intro v e;exact LW (zN.1 c v e)
 simp[fY,a,freezes,bE]
@[go_sem]theorem zAO (r:V) (d:Bool) (h:ae) (K:V->ae->Prop) (w:WK K):fY (some r) d h [] K w=K r h:=YX r d h [] K w rfl
def jm (K:List V->Prop) (_:WK K) (o:Option (List V)):Prop:=match o with
 | none=>False
 | some vs=>K vs
@[go_sem]theorem zxy (vs:List V) (K:List V->Prop) (w:WK K):jm K w (some vs)=K vs:=rfl
theorem Se {d:Bool} {t:Nat} {l:List ROp} {p:Nat} {Q:M->Prop} {sl:Nat->Slot} {u:Nat->Bool} {h:ae} {n b g:Nat} {vs:List V}:
 uA Γ G d ⟨sl,u,h,n,b⟩ (some t) g vs (fun a=>wpO Γ G d (p+1) l a Q)=
  qA (Γ:=Γ) (G:=G) d (u t) h g vs (vs.mapM (toT1 h)) (fun r h'=>wO Γ G d (p+1) l Q ⟨updC sl t ⟨r,none,none⟩,u,h',n,b⟩ ⟨0⟩) ⟨0⟩:=by
 rw[cq (α:=Slot)];rw[kaN];simp only[qA,M.free,gv,wO,cR,iQ]
 cases vs.mapM (toT1 h)with
 | none=>simp
 | some rs=>
   simp only
   cases Den Γ G g rs with
   | none=>simp
   | some r=>
     simp only[uG,M.apply,eO,bl,eI]
@[go_sem ↓]theorem zCl (t g:Nat) (args:List Opd) (w:W4 _ _ _ _):
 wO Γ G d p (⟨none,some t,.call false (.c (.t (.fn g [] []))) args⟩::l) Q ⟨sl,u,h,n,b⟩ w=
  jm (fun vs=>qA (Γ:=Γ) (G:=G) d (u t) h g vs (vs.mapM (toT1 h)) (fun r h'=>wO Γ G d (p+1) l Q ⟨updC sl t ⟨r,none,none⟩,u,h',n,b⟩ ⟨0⟩) ⟨0⟩) ⟨0⟩ (dY G sl args):=by
 unfold wO;rw[cR];rw[iI];simp only[j0,evl,zD,cG,bc,oe]
 cases dY G sl args with
 | none=>rfl
 | some vs=>
   simp only[jm,ff,bW,zG,aX];have e:=Se (Γ:=Γ) (G:=G) (d:=d) (t:=t) (l:=l) (p:=p) (Q:=Q) (sl:=sl) (u:=u) (h:=h) (n:=n) (b:=b) (g:=g) (vs:=vs);unfold wO at e;rw[cR]at e;exact e
def fnK (o:Option V) (K:Nat->List V->List V->Prop) (_:WK K):Prop:=match o with
 | none=>False
 | some v=>match cG v with
   | none=>False
   | some (g,a,c)=>K g a c
@[go_sem]theorem zDd (g:Nat) (a c:List T) (K:Nat->List V->List V->Prop) (w:WK K):fnK (some (.t (.fn g a c))) K w=K g (a.map V.t) (c.map V.t):=rfl
@[go_sem]theorem zDc (g:Nat) (a c:List V) (K:Nat->List V->List V->Prop) (w:WK K):fnK (some (.fn g a c)) K w=K g a c:=rfl
@[go_sem ↓]theorem zA9 (t x:Nat) (args:List Opd) (w:W4 _ _ _ _):
 wO Γ G d p (⟨none,some t,.call false (.s x) args⟩::l) Q ⟨sl,u,h,n,b⟩ w=
  fnK (aE G sl (.s x)) (fun g a c=>jm (fun vs=>qA (Γ:=Γ) (G:=G) d (u t) h g (a++vs++c) ((a++vs++c).mapM (toT1 h)) (fun r h'=>wO Γ G d (p+1) l Q ⟨updC sl t ⟨r,none,none⟩,u,h',n,b⟩ ⟨0⟩) ⟨0⟩) ⟨0⟩ (dY G sl args)) ⟨0⟩:=by
 unfold wO;rw[cR];rw[iI];simp only[j0,bQ,oe]
 cases aE G sl (.s x)with
 | none=>cases dY G sl args<;>rfl
 | some v=>
   simp only[zD,fnK]
   cases cG v with
   | none=>
     simp only
     cases dY G sl args with
     | none=>rfl
     | some vs=>
       simp only[zG,p']
       split<;>rfl
   | some q=>
     obtain⟨g,a,c⟩:=q;simp only
     cases dY G sl args with
     | none=>rfl
     | some vs=>
       simp only[jm,zG,aX];have e:=Se (Γ:=Γ) (G:=G) (d:=d) (t:=t) (l:=l) (p:=p) (Q:=Q) (sl:=sl) (u:=u) (h:=h) (n:=n) (b:=b) (g:=g) (vs:=a++vs++c);unfold wO at e;rw[cR]at e;exact e
def na (a:Bool) (o:Option (V×ae×Nat)) (K:V->ae->Nat->Prop) (_:WK K):Prop:=match o with
 | none=>False
 | some (r,h,n)=>a=false/\K r h n
theorem Rf {d:Bool} {t:Nat} {l:List ROp} {p:Nat} {Q:M->Prop} {sl:Nat->Slot} {u:Nat->Bool} {h:ae} {n b g:Nat} {vs:List V}:
 uz Γ G ⟨sl,u,h,n,b⟩ (some t) g vs (fun c=>wpO Γ G d (p+1) l c Q)=
  na (u t) (DenR Γ G g vs h n) (fun r h' a=>wO Γ G d (p+1) l Q ⟨updC sl t ⟨r,none,none⟩,u,h',a,b⟩ ⟨0⟩) ⟨0⟩:=by
 (try rw[cq (α:=Slot)])
 rw[kaM];simp only[na,M.free,gv,wO,cR]
 cases DenR Γ G g vs h n with
 | none=>simp
 | some q=>
   obtain⟨r,h',a⟩:=q;simp only[M.apply,eO,bl,eI]
@[go_sem ↓]theorem zAY (t g:Nat) (args:List Opd) (w:W4 _ _ _ _):
 wO Γ G d p (⟨none,some t,.call true (.c (.t (.fn g [] []))) args⟩::l) Q ⟨sl,u,h,n,b⟩ w=
  jm (fun vs=>na (u t) (DenR Γ G g vs h n) (fun r h' a=>wO Γ G d (p+1) l Q ⟨updC sl t ⟨r,none,none⟩,u,h',a,b⟩ ⟨0⟩) ⟨0⟩) ⟨0⟩ (dY G sl args):=by
 unfold wO;rw[cR];rw[iI];simp only[j0,evl,zD,cG,bc,oe]
 cases dY G sl args with
 | none=>rfl
 | some vs=>
   simp only[jm,ff,bW,aU];have e:=Rf (Γ:=Γ) (G:=G) (d:=d) (t:=t) (l:=l) (p:=p) (Q:=Q) (sl:=sl) (u:=u) (h:=h) (n:=n) (b:=b) (g:=g) (vs:=vs);unfold wO at e;rw[cR]at e;exact e
def fnY (o:Option V) (K:Nat->List V->List V->Prop) (Y:Nat->Prop) (_:WK K) (_:WK Y):Prop:=match o with
 | none=>False
 | some v=>match cG v with
   | some (g,a,c)=>K g a c
   | none=>match uU v with
     | some k=>Y k
     | none=>False
@[go_sem]theorem zDb (g:Nat) (a c:List V) (K:Nat->List V->List V->Prop) (Y:Nat->Prop) (w:WK K) (w':WK Y):fnY (some (.fn g a c)) K Y w w'=K g a c:=rfl
@[go_sem]theorem zDa (k:Nat) (K:Nat->List V->List V->Prop) (Y:Nat->Prop) (w:WK K) (w':WK Y):fnY (some (.yl k)) K Y w w'=Y k:=rfl
theorem kaz {d:Bool} {t:Nat} {l:List ROp} {p:Nat} {Q:M->Prop} {sl:Nat->Slot} {u:Nat->Bool} {h:ae} {n b k:Nat} {vs:List V}:
 vh Γ G ⟨sl,u,h,n,b⟩ (some t) k vs (fun c=>wpO Γ G d (p+1) l c Q)=
  na (u t) (DenY Γ G k vs h n) (fun r h' a=>wO Γ G d (p+1) l Q ⟨updC sl t ⟨r,none,none⟩,u,h',a,b⟩ ⟨0⟩) ⟨0⟩:=by
 (try rw[cq (α:=Slot)])
 rw[kbw];simp only[na,M.free,gv,wO,cR]
 cases DenY Γ G k vs h n with
 | none=>simp
 | some q=>
   obtain⟨r,h',a⟩:=q;simp only[M.apply,eO,bl,eI]
def rY (f:Bool) (h:ae) (a g:Nat) (vs:List V) (K:V->List (Nat×O)->Prop) (_:WK K):Prop:=
 f=false/\vs.flatMap (b_ h)=[]/\ ∃rs,vs.mapM (toT1 h)=some rs/\ ∃r h' c,DenR Γ G g rs (fun _=>none) 0=some (r,h',c)/\ ∃e,ja a r h'=some e/\K e.val e.hp
@[go_sem ↓]theorem zA7 (t g:Nat) (args:List Opd) (w:W4 _ _ _ _):
 wO Γ G d p (⟨none,some t,.fcall (.c (.t (.fn g [] []))) args⟩::l) Q ⟨sl,u,h,n,b⟩ w=
  jm (fun vs=>rY (Γ:=Γ) (G:=G) (u t) h (b+p) g vs (fun v hp=>wO Γ G d (p+1) l Q ⟨updC sl t ⟨v,none,none⟩,u,At h hp,n,b⟩ ⟨0⟩) ⟨0⟩) ⟨0⟩ (dY G sl args):=by
 unfold wO;rw[cR];rw[iI];simp only[j0,evl,zD,cG,bc,oe]
 cases dY G sl args with
 | none=>rfl
 | some vs=>
   simp only[jm,ff,bW,Tp,rY,M.free,gv,eI];apply propext;constructor
   ·rintro⟨i,j,rs,k,r,h',m,c,_,e,a,f⟩;refine⟨i,j,rs,k,r,h',m,jy.2 c,e,a,?_⟩;obtain⟨o,q,s⟩:=rx a;rw[cq,iQ];simpa[M.apply,eO,o,q,s]using f
   ·rintro⟨i,j,rs,k,r,h',m,c,e,a,f⟩;refine⟨i,j,rs,k,r,h',m,jy.1 c,zm (jy.1 c),e,a,?_⟩;obtain⟨o,q,s⟩:=rx a;rw[cq,iQ]at f;simpa[M.apply,eO,o,q,s]using f
@[go_sem ↓]theorem zzi (t x:Nat) (args:List Opd) (w:W4 _ _ _ _):
 wO Γ G d p (⟨none,some t,.call true (.s x) args⟩::l) Q ⟨sl,u,h,n,b⟩ w=
  fnY (aE G sl (.s x)) (fun g a c=>jm (fun vs=>na (u t) (DenR Γ G g (a++vs++c) h n) (fun r h' f=>wO Γ G d (p+1) l Q ⟨updC sl t ⟨r,none,none⟩,u,h',f,b⟩ ⟨0⟩) ⟨0⟩) ⟨0⟩ (dY G sl args))
   (fun k=>jm (fun vs=>na (u t) (DenY Γ G k vs h n) (fun r h' f=>wO Γ G d (p+1) l Q ⟨updC sl t ⟨r,none,none⟩,u,h',f,b⟩ ⟨0⟩) ⟨0⟩) ⟨0⟩ (dY G sl args)) ⟨0⟩ ⟨0⟩:=by
 unfold wO;rw[cR];rw[iI];simp only[j0,bQ,oe]
 cases aE G sl (.s x)with
 | none=>cases dY G sl args<;>rfl
 | some v=>
   simp only[zD,fnY]
   cases cG v with
   | none=>
     simp only
     cases uU v with
     | none=>cases dY G sl args<;>rfl
     | some k=>
       simp only
       cases dY G sl args with
       | none=>rfl
       | some vs=>
         simp only[jm,nN];have e:=kaz (Γ:=Γ) (G:=G) (d:=d) (t:=t) (l:=l) (p:=p) (Q:=Q) (sl:=sl) (u:=u) (h:=h) (n:=n) (b:=b) (k:=k) (vs:=vs);unfold wO at e;rw[cR]at e
         exact e
   | some q=>
     obtain⟨g,a,c⟩:=q;simp only
     cases dY G sl args with
     | none=>rfl
     | some vs=>
       simp only[jm,aU];have e:=Rf (Γ:=Γ) (G:=G) (d:=d) (t:=t) (l:=l) (p:=p) (Q:=Q) (sl:=sl) (u:=u) (h:=h) (n:=n) (b:=b) (g:=g) (vs:=a++vs++c);unfold wO at e;rw[cR]at e;exact e
def resVal:V->Option V
 | .undef=>none
 | .lb=>none
 | .tup _=>none
 | v=>some v
attribute [go_sem] resVal
def u0 (h:ae) (ag:Bool) (n:Nat):V->Option V
 | .mp k i a=>match h k with
   | some (.rows _ rs _)=>(rs[i]?).bind fun row=>(rd row a n).bind (dW ag)
   | _=>none
 | _=>none
attribute [go_sem] u0
theorem Vc (sl:Nat->Slot) (u:Nat->Bool) (h:ae) (n b t:Nat):eW (M.st ⟨sl,u,h,n,b⟩) (.s t)=resVal (sl t).v:=by
 simp only[eW,M.st];cases(sl t).v<;>rfl
theorem Vb (sl:Nat->Slot) (u:Nat->Bool) (h:ae) (n b t:Nat) (ag:Bool) (k:Nat):eW (M.st ⟨sl,u,h,n,b⟩) (.l t ag k)=ob (sl t).box (fun cs=>ob (rd cs 0 k) (dW ag) ⟨0⟩) ⟨0⟩:=rfl
theorem Va (sl:Nat->Slot) (u:Nat->Bool) (h:ae) (n b t:Nat) (ag:Bool) (k:Nat):eW (M.st ⟨sl,u,h,n,b⟩) (.h t ag k)=u0 h ag k (sl t).v:=by
 simp only[eW,M.st,u0]
 cases(sl t).v with
 | mp q i a=>simp only;cases h q with
   | none=>rfl
   | some o=>cases o with
     | rows c rs z=>rfl
     | _=>rfl
 | _=>rfl
def r8:List V->V
 | [v]=>v
 | vs=> .tup vs
attribute [go_sem] r8
theorem Zm (sl:Nat->Slot) (u c:Nat->Bool) (h:ae) (n b a b':Nat) (r:Res):eW (M.st ⟨sl,u,h,n,b⟩) r=eW (M.st ⟨sl,c,h,a,b'⟩) r:=by
 cases r<;>rfl
structure W5 (sl:Nat->Slot) (h:Nat->Option O) (rs:List Res) (acc:List V) (K:V->Prop)where
 n:Nat
def hW (sl:Nat->Slot) (h:ae) (rs:List Res) (acc:List V) (K:V->Prop) (_:W5 sl h rs acc K):Prop:=
 match rs.mapM (eW (M.st ⟨sl,fun _=>false,h,0,0⟩))with
 | none=>False
 | some vs=>K (r8 (acc++vs))
@[go_sem ↓]theorem zzF (sl:Nat->Slot) (h:ae) (acc:List V) (K:V->Prop) (w:W5 sl h [] acc K):hW sl h [] acc K w=K (r8 acc):=by simp[hW]
theorem x8 (sl:Nat->Slot) (h:ae) (r:Res) (rs:List Res) (acc:List V) (K:V->Prop) (w:W5 sl h (r::rs) acc K):
 hW sl h (r::rs) acc K w=bt false (eW (M.st ⟨sl,fun _=>false,h,0,0⟩) r) (fun v=>hW sl h rs (acc++[v]) K ⟨0⟩) ⟨0⟩:=by
 simp only[hW,cQ,zC]
 cases eW (M.st ⟨sl,fun _=>false,h,0,0⟩) r with
 | none=>rfl
 | some v=>
   simp only[zD,bt,nN]
   cases rs.mapM (eW (M.st ⟨sl,fun _=>false,h,0,0⟩))with
   | none=>rfl
   | some vs=>simp
@[go_sem ↓]theorem zCv (sl:Nat->Slot) (h:ae) (t:Nat) (rs:List Res) (acc:List V) (K:V->Prop) (w:W5 sl h (.s t::rs) acc K):
 hW sl h (.s t::rs) acc K w=bt false (resVal (sl t).v) (fun v=>hW sl h rs (acc++[v]) K ⟨0⟩) ⟨0⟩:=by rw[x8,Vc]
@[go_sem ↓]theorem zCw (sl:Nat->Slot) (h:ae) (t:Nat) (ag:Bool) (k:Nat) (rs:List Res) (acc:List V) (K:V->Prop) (w:W5 sl h (.l t ag k::rs) acc K):
 hW sl h (.l t ag k::rs) acc K w=bt false (ob (sl t).box (fun cs=>ob (rd cs 0 k) (dW ag) ⟨0⟩) ⟨0⟩) (fun v=>hW sl h rs (acc++[v]) K ⟨0⟩) ⟨0⟩:=by rw[x8,Vb]
@[go_sem ↓]theorem zCx (sl:Nat->Slot) (h:ae) (t:Nat) (ag:Bool) (k:Nat) (rs:List Res) (acc:List V) (K:V->Prop) (w:W5 sl h (.h t ag k::rs) acc K):
 hW sl h (.h t ag k::rs) acc K w=bt false (u0 h ag k (sl t).v) (fun v=>hW sl h rs (acc++[v]) K ⟨0⟩) ⟨0⟩:=by rw[x8,Va]
theorem x9 (sl:Nat->Slot) (u:Nat->Bool) (h:ae) (n b:Nat) (rs:List Res) (K:V->Prop):
 (∃v,jk (M.st ⟨sl,u,h,n,b⟩) rs=some v/\K v)=hW sl h rs [] K ⟨0⟩:=by
 have:eW (M.st ⟨sl,u,h,n,b⟩)=eW (M.st ⟨sl,fun _=>false,h,0,0⟩):=funext fun r=>Zm sl u _ h n b 0 0 r
 simp only[jk,this,hW,ff,zC]
 cases rs.mapM (eW (M.st ⟨sl,fun _=>false,h,0,0⟩))with
 | none=>simp
 | some vs=>
   simp only[zD]
   cases vs with
   | nil=>simp[r8]
   | cons v vs=>cases vs<;>simp[r8]
def Fi (rs:List Res) (r:V) (e:Ex) (m:M):Prop:=Fin rs r e m
@[go_sem ↓]theorem zCe (rs:List Res) (r:V) (sl:Nat->Slot) (u:Nat->Bool) (h:ae) (n b:Nat):Fi rs r .ret ⟨sl,u,h,n,b⟩=hW sl h rs [] (fun v=>reify h v=some r) ⟨0⟩:=by
 rw[Fi,kcT,x9]
def FiR (rs:List Res) (P:V->ae->Nat->Prop) (e:Ex) (m:M):Prop:=qG rs P e m
@[go_sem ↓]theorem zA4 (rs:List Res) (P:V->ae->Nat->Prop) (sl:Nat->Slot) (u:Nat->Bool) (h:ae) (n b:Nat):FiR rs P .ret ⟨sl,u,h,n,b⟩=hW sl h rs [] (fun v=>SpN (P v h n) ⟨0⟩) ⟨0⟩:=by
 rw[FiR,kbu,<- x9 sl u h n b];rfl
@[go_sem ↓]theorem zA5 (rs:List Res) (P:V->ae->Nat->Prop) (sl:Nat->Slot) (u:Nat->Bool) (h:ae) (n b:Nat):FiR rs P .normal ⟨sl,u,h,n,b⟩=hW sl h rs [] (fun v=>SpN (P v h n) ⟨0⟩) ⟨0⟩:=by
 rw[FiR,kbv,<- x9 sl u h n b];rfl
theorem px {g:Nat} {args:List V} {fn:F} {r:V} (a:Γ g=some fn) (c:fn.raw=false)
 (h:wC Γ G fn.body (qOf Γ G [] (Fi fn.results r)) ⟨slotsC args 0,fun _=>false,fun _=>none,0,0⟩ ⟨0⟩):Den Γ G g args=some r:=kcM a c (by unfold wC at h;rw[fp,eP,xU]at h;exact h)
theorem VK {g:Nat} {args:List V} {fn:F} {hp:ae} {n:Nat} {P:V->ae->Nat->Prop} (c:Γ g=some fn) (e:fn.raw=true)
 (h:wC Γ G fn.body (qOf Γ G [] (FiR fn.results P)) ⟨slotsC args 0,fun _=>false,hp,n,n⟩ ⟨0⟩): ∃r h' a,DenR Γ G g args hp n=some (r,h',a)/\P r h' a:=kaL c e (by unfold wC at h;rw[fp,eP,xU]at h;exact h)
theorem a8 {b:C} {sl:Nat->Slot} {c:Nat->Bool} {nx a:Nat} {Q:Ex->M->Prop} {w:W3 b Q ⟨sl,c,fun _=>none,nx,a⟩} (k:Nat) (n:Nat) (Inv:Nat->(Nat->Slot)->Prop) (j:b.wrIn (ou k)=true) (g:b.noH=true)
 (e:Inv 0 sl)
 (h: ∀i f u x bs,i<=n->Inv i f->wC Γ G b (qOf Γ G [] (g_ (fun m=>SpN (i<n/\Inv (i+1) m.sl) ⟨0⟩) Q)) ⟨ovrM k f sl,u,fun _=>none,x,bs⟩ ⟨0⟩):wL Γ G b Q ⟨sl,c,fun _=>none,nx,a⟩ w:=
 by
  unfold wL;rw[jH];exact Vw _ n Inv j g e (by unfold ovrM wC at h;rw[uJ,fp,eP]at h;exact h)
theorem aS {b:C} {sl:Nat->Slot} {e:Nat->Bool} {hp:ae} {nx c:Nat} {Q:Ex->M->Prop} {w:W3 b Q ⟨sl,e,hp,nx,c⟩} (k:Nat) (n:Nat) (Inv:Nat->(Nat->Slot)->ae->Nat->Prop) (j:b.wrIn (ou k)=true)
 (g:Inv 0 sl hp nx)
 (h: ∀i f u h x bs,i<=n->Inv i f h x->wC Γ G b (qOf Γ G [] (g_ (fun a=>SpN (i<n/\Inv (i+1) a.sl a.heap a.nxt) ⟨0⟩) Q)) ⟨ovrM k f sl,u,h,x,bs⟩ ⟨0⟩):wL Γ G b Q ⟨sl,e,hp,nx,c⟩ w:=
 by
  unfold wL;rw[jH];exact kcE _ n Inv j g (by unfold ovrM wC at h;rw[uJ,fp,eP]at h;exact h)
@[go_sem ↓]theorem zB5 (sl:Nat->Slot) (u:Nat->Bool) (h:ae) (n b:Nat):(M.mk sl u h n b).sl=sl:=rfl
end
end Rg
namespace Rg
open Go
theorem bK {Γ:Nat->Option F} {G:Nat->List T} {b:C} {Q:Ex->M->Prop} {m:M} {w:W3 b Q m} (h:wC Γ G b (qOf Γ G [] (g_ (fun a=>wL Γ G b Q a ⟨0⟩) Q)) m ⟨0⟩):wL Γ G b Q m w:=
 by
  unfold wC at h;rw[fp,eP]at h;unfold wL at h⊢;rw[jH]at h⊢;exact S0 (jO h)
end Rg
namespace Rg
open Go
theorem bf {o:Option (V×ae×Nat)} {P:V->ae->Nat->Prop} {K:V->ae->Nat->Prop} {w:WK K}
 (h: ∃r h' a,o=some (r,h',a)/\P r h' a) (c: ∀r h' a,P r h' a->K r h' a):na false o K w:=by
 obtain⟨r,h',a,rfl,hp⟩:=h;exact⟨rfl,c r h' a hp⟩
attribute [go_sem] List.isEmpty_cons List.isEmpty_nil List.set_cons_zero List.set_cons_succ Nat.lt_add_one Nat.zero_add Option.isSome_some ne_eq Int.cast_ofNat_Int decide_true decide_false not_false_eq_true not_true_eq_false and_self exists_eq_left' V.t.injEq T.bool.injEq T.int.injEq V.agg.injEq V.tup.injEq List.cons.injEq
theorem bh:(∀(p:Prop) [Decidable p],(decide p=true)=p)/\(∀(p:Prop) [Decidable p],(decide p=false)<-> ¬p)/\(∀(α:Type) [BEq α] [LawfulBEq α] (a b:α),(a==b)=true<->a=b)
 /\(∀(α:Type) [BEq α] [LawfulBEq α] (a b:α),(a != b)=true<->a≠b)/\(∀(α:Type) [BEq α] [LawfulBEq α] (x y:α),(x==y)=false<->x≠y)/\(∀(α:Type) [BEq α] [LawfulBEq α] (a b:α),(a != b)=false<->a=b)
 /\(∀b:Bool,((!b)=true)=(b=false))/\(∀b:Bool,((!b)=false)=(b=true))/\(∀b c:Bool,((!b)=c)=(b= !c))/\((!true)=false)/\((!false)=true)/\(∀(α:Type) (a b:α),(a≠b)= ¬a=b)/\(∀(p:Prop) [Decidable p],¬¬p<->p):=
 ⟨fun _ _=>aQ,fun _ _=>d8,fun _ _ _ _ _=>oZ,fun _ _ _ _ _=>bne_iff_ne,fun _ _ _ _ _=>Ik,fun _ _ _ _ _=>bne_eq_false_iff_eq,eI,ni,
  fun _ _=>af,rfl,rfl,fun _ _ _=>rfl,fun _ _=>sQ⟩
theorem aA {P Q:Prop} (q:Q) (h:P=Q:=by simp -dsimp only[go_sem,seval];try rfl):P:=h▸q
abbrev jr (F P:Prop):= ∀{Q:Prop},Q->(h:F->P=Q:=by intro h;simp -dsimp only[go_sem,seval,h];try rfl)->P
abbrev mN (F P:Prop):=(h:F->P:=by intro h;simp -dsimp only[go_sem,seval,h])->P
abbrev VF (F P:Prop):=(h:F->P:=by intro h;simp -dsimp only[go_sem,seval,h];omega)->P
theorem am {p:Prop} (h:p:=by simp -dsimp only[go_sem,seval]):p:=h
theorem av {p:Prop} (h:p:=by simp -dsimp only[go_sem,seval];omega):p:=h
abbrev mM (F:Prop) (b:Bool) (A B:Prop) (w:Wit A B):=∀{p q A' iY:Prop},(p->A')->(q->iY)->(e:(b=true)=p:=by (try simp only[bh]);try rfl)->(f:(b=false)=q:=by (try simp only[bh]);try rfl)->(r:F->b=true->A=A':=by intro f h;(try rewrite[h]);(try simp -dsimp only[go_sem,seval,f]);try rfl)->(s:F->b=false->B=iY:=by intro f h;(try rewrite[h]);(try simp -dsimp only[go_sem,seval,f]);try rfl)->eS b A B w
theorem nJ {F:Prop} (x:F) {b:Bool} {A B:Prop} {w:Wit A B}:mM F b A B w:=fun k l e f r s=>bq (fun h=>r x h▸k (e▸h)) fun h=>s x h▸l (f▸h)
theorem gS {b:Bool} {A B:Prop} {w:Wit A B}:mM True b A B w:=@nJ _ trivial _ _ _ _
theorem aR {A X Y:Prop}(a:A){x:Bool} {y:Wit X Y}:mM (A) x X Y y:=@nJ _ a _ _ _ _
theorem dH {A B X Y:Prop}(a:A)(b:B){x:Bool} {y:Wit X Y}:mM (A/\B) x X Y y:=@nJ _ ⟨a,b⟩ _ _ _ _
theorem qZ {A B C X Y:Prop}(a:A)(b:B)(c:C){x:Bool} {y:Wit X Y}:mM (A/\B/\C) x X Y y:=@nJ _ ⟨a,b,c⟩ _ _ _ _
theorem mL {A B C D X Y:Prop}(a:A)(b:B)(c:C)(d:D){x:Bool} {y:Wit X Y}:mM (A/\B/\C/\D) x X Y y:=@nJ _ ⟨a,b,c,d⟩ _ _ _ _
theorem ld {A B C D E X Y:Prop}(a:A)(b:B)(c:C)(d:D)(e:E){x:Bool} {y:Wit X Y}:mM (A/\B/\C/\D/\E) x X Y y:=@nJ _ ⟨a,b,c,d,e⟩ _ _ _ _
theorem vE {A B C D E F X Y:Prop}(a:A)(b:B)(c:C)(d:D)(e:E)(f:F){x:Bool} {y:Wit X Y}:mM (A/\B/\C/\D/\E/\F) x X Y y:=@nJ _ ⟨a,b,c,d,e,f⟩ _ _ _ _
theorem VE {A B C D E F I X Y:Prop}(a:A)(b:B)(c:C)(d:D)(e:E)(f:F)(i:I){x:Bool} {y:Wit X Y}:mM (A/\B/\C/\D/\E/\F/\I) x X Y y:=@nJ _ ⟨a,b,c,d,e,f,i⟩ _ _ _ _
abbrev sH (F:Prop) (b:Bool) (A B:Prop) (w:Wit A B):=∀{p q A' iY:Prop},(p->A')->(q->iY)->(e:(b=true)=p:=by (try simp only[bh]);try rfl)->(f:(b=false)=q:=by (try simp only[bh]);try rfl)->(r:F->b=true->A=A':=by intro f h;(try simp only[bh]at h);(try simp -dsimp only[go_sem,seval,f, *]);try rfl)->(s:F->b=false->B=iY:=by intro f h;(try simp only[bh]at h);(try simp -dsimp only[go_sem,seval,f, *]);try rfl)->eS b A B w
theorem vD {F:Prop} (x:F) {b:Bool} {A B:Prop} {w:Wit A B}:sH F b A B w:=fun k l e f r s=>bq (fun h=>r x h▸k (e▸h)) fun h=>s x h▸l (f▸h)
theorem bv {b:Bool} {A B:Prop} {w:Wit A B}:sH True b A B w:=@vD _ trivial _ _ _ _
theorem vB {A X Y:Prop}(a:A){x:Bool} {y:Wit X Y}:sH (A) x X Y y:=@vD _ a _ _ _ _
theorem FL {A B X Y:Prop}(a:A)(b:B){x:Bool} {y:Wit X Y}:sH (A/\B) x X Y y:=@vD _ ⟨a,b⟩ _ _ _ _
theorem VD {A B C X Y:Prop}(a:A)(b:B)(c:C){x:Bool} {y:Wit X Y}:sH (A/\B/\C) x X Y y:=@vD _ ⟨a,b,c⟩ _ _ _ _
theorem aw {A P:Prop}(a:A):jr (A) P:=fun q h=>h a▸q
theorem ak {A P:Prop}(a:A):mN (A) P:=fun h=>h a
theorem FJ {A P:Prop}(a:A):VF (A) P:=fun h=>h a
theorem aJ {A B P:Prop}(a:A)(b:B):jr (A/\B) P:=fun q h=>h ⟨a,b⟩▸q
theorem bg {A B P:Prop}(a:A)(b:B):mN (A/\B) P:=fun h=>h ⟨a,b⟩
theorem a7 {A B C P:Prop}(a:A)(b:B)(c:C):jr (A/\B/\C) P:=fun q h=>h ⟨a,b,c⟩▸q
theorem ds {A B C P:Prop}(a:A)(b:B)(c:C):mN (A/\B/\C) P:=fun h=>h ⟨a,b,c⟩
theorem bN {A B C D P:Prop}(a:A)(b:B)(c:C)(d:D):jr (A/\B/\C/\D) P:=fun q h=>h ⟨a,b,c,d⟩▸q
theorem k_ {A B C D P:Prop}(a:A)(b:B)(c:C)(d:D):mN (A/\B/\C/\D) P:=fun h=>h ⟨a,b,c,d⟩
theorem bT {A B C D E P:Prop}(a:A)(b:B)(c:C)(d:D)(e:E):jr (A/\B/\C/\D/\E) P:=fun q h=>h ⟨a,b,c,d,e⟩▸q
theorem sG {A B C D E P:Prop}(a:A)(b:B)(c:C)(d:D)(e:E):mN (A/\B/\C/\D/\E) P:=fun h=>h ⟨a,b,c,d,e⟩
theorem de {A B C D E F P:Prop}(a:A)(b:B)(c:C)(d:D)(e:E)(f:F):jr (A/\B/\C/\D/\E/\F) P:=fun q h=>h ⟨a,b,c,d,e,f⟩▸q
theorem pv {A B C D E F P:Prop}(a:A)(b:B)(c:C)(d:D)(e:E)(f:F):mN (A/\B/\C/\D/\E/\F) P:=fun h=>h ⟨a,b,c,d,e,f⟩
theorem dG {A B C D E F I P:Prop}(a:A)(b:B)(c:C)(d:D)(e:E)(f:F)(i:I):jr (A/\B/\C/\D/\E/\F/\I) P:=fun q h=>h ⟨a,b,c,d,e,f,i⟩▸q
theorem VC {A B C D E F I P:Prop}(a:A)(b:B)(c:C)(d:D)(e:E)(f:F)(i:I):mN (A/\B/\C/\D/\E/\F/\I) P:=fun h=>h ⟨a,b,c,d,e,f,i⟩
theorem qY {A B C D E F I J P:Prop}(a:A)(b:B)(c:C)(d:D)(e:E)(f:F)(i:I)(j:J):jr (A/\B/\C/\D/\E/\F/\I/\J) P:=fun q h=>h ⟨a,b,c,d,e,f,i,j⟩▸q
theorem VB {A B C D E F I J P:Prop}(a:A)(b:B)(c:C)(d:D)(e:E)(f:F)(i:I)(j:J):mN (A/\B/\C/\D/\E/\F/\I/\J) P:=fun h=>h ⟨a,b,c,d,e,f,i,j⟩
theorem ra {A B C D E F I J K P:Prop}(a:A)(b:B)(c:C)(d:D)(e:E)(f:F)(i:I)(j:J)(k:K):jr (A/\B/\C/\D/\E/\F/\I/\J/\K) P:=fun q h=>h ⟨a,b,c,d,e,f,i,j,k⟩▸q
theorem mP {A B C D E F I J K L P:Prop}(a:A)(b:B)(c:C)(d:D)(e:E)(f:F)(i:I)(j:J)(k:K)(l:L):jr (A/\B/\C/\D/\E/\F/\I/\J/\K/\L) P:=fun q h=>h ⟨a,b,c,d,e,f,i,j,k,l⟩▸q
theorem VG {A B C D E F I J K L P:Prop}(a:A)(b:B)(c:C)(d:D)(e:E)(f:F)(i:I)(j:J)(k:K)(l:L):mN (A/\B/\C/\D/\E/\F/\I/\J/\K/\L) P:=fun h=>h ⟨a,b,c,d,e,f,i,j,k,l⟩
theorem nK {A B C D E F I J K L M P:Prop}(a:A)(b:B)(c:C)(d:D)(e:E)(f:F)(i:I)(j:J)(k:K)(l:L)(m:M):jr (A/\B/\C/\D/\E/\F/\I/\J/\K/\L/\M) P:=fun q h=>h ⟨a,b,c,d,e,f,i,j,k,l,m⟩▸q
theorem sI {A B C D E F I J K L M N P:Prop}(a:A)(b:B)(c:C)(d:D)(e:E)(f:F)(i:I)(j:J)(k:K)(l:L)(m:M)(n:N):jr (A/\B/\C/\D/\E/\F/\I/\J/\K/\L/\M/\N) P:=fun q h=>h ⟨a,b,c,d,e,f,i,j,k,l,m,n⟩▸q
theorem F5 {P Q:Prop} (q:Q) (h:P=Q:=by simp -dsimp [go_sem];try rfl):P:=h▸q
abbrev q_ (F P:Prop):= ∀{Q:Prop},Q->(h:F->P=Q:=by intro h;simp -dsimp [go_sem,h];try rfl)->P
abbrev vH (F P:Prop):=(h:F->P:=by intro h;simp -dsimp [go_sem,h])->P
abbrev kkl (F P:Prop):=(h:F->P:=by intro h;simp -dsimp [go_sem,h];omega)->P
theorem mO {p:Prop} (h:p:=by simp -dsimp [go_sem]):p:=h
abbrev zR (F:Prop) (b:Bool) (A B:Prop) (w:Wit A B):=∀{p q A' iY:Prop},(p->A')->(q->iY)->(e:(b=true)=p:=by (try simp only[bh]);try rfl)->(f:(b=false)=q:=by (try simp only[bh]);try rfl)->(r:F->b=true->A=A':=by intro f h;(try rewrite[h]);(try simp -dsimp [go_sem,f]);try rfl)->(s:F->b=false->B=iY:=by intro f h;(try rewrite[h]);(try simp -dsimp [go_sem,f]);try rfl)->eS b A B w
theorem F0 {F:Prop} (x:F) {b:Bool} {A B:Prop} {w:Wit A B}:zR F b A B w:=fun k l e f r s=>bq (fun h=>r x h▸k (e▸h)) fun h=>s x h▸l (f▸h)
theorem vG {b:Bool} {A B:Prop} {w:Wit A B}:zR True b A B w:=@F0 _ trivial _ _ _ _
theorem zy {A X Y:Prop}(a:A){x:Bool} {y:Wit X Y}:zR (A) x X Y y:=@F0 _ a _ _ _ _
abbrev zx (F:Prop) (b:Bool) (A B:Prop) (w:Wit A B):=∀{p q A' iY:Prop},(p->A')->(q->iY)->(e:(b=true)=p:=by (try simp only[bh]);try rfl)->(f:(b=false)=q:=by (try simp only[bh]);try rfl)->(r:F->b=true->A=A':=by intro f h;(try simp only[bh]at h);(try simp -dsimp [go_sem,f, *]);try rfl)->(s:F->b=false->B=iY:=by intro f h;(try simp only[bh]at h);(try simp -dsimp [go_sem,f, *]);try rfl)->eS b A B w
theorem FV {F:Prop} (x:F) {b:Bool} {A B:Prop} {w:Wit A B}:zx F b A B w:=fun k l e f r s=>bq (fun h=>r x h▸k (e▸h)) fun h=>s x h▸l (f▸h)
theorem q9 {b:Bool} {A B:Prop} {w:Wit A B}:zx True b A B w:=@FV _ trivial _ _ _ _
theorem F' {A X Y:Prop}(a:A){x:Bool} {y:Wit X Y}:zx (A) x X Y y:=@FV _ a _ _ _ _
theorem jV {A P:Prop}(a:A):q_ (A) P:=fun q h=>h a▸q
theorem F_ {A P:Prop}(a:A):vH (A) P:=fun h=>h a
theorem sJ {A B P:Prop}(a:A)(b:B):q_ (A/\B) P:=fun q h=>h ⟨a,b⟩▸q
theorem zX {A B P:Prop}(a:A)(b:B):vH (A/\B) P:=fun h=>h ⟨a,b⟩
theorem zW {A B C P:Prop}(a:A)(b:B)(c:C):q_ (A/\B/\C) P:=fun q h=>h ⟨a,b,c⟩▸q
theorem VJ {A B C D P:Prop}(a:A)(b:B)(c:C)(d:D):q_ (A/\B/\C/\D) P:=fun q h=>h ⟨a,b,c,d⟩▸q
theorem zV {A B C D P:Prop}(a:A)(b:B)(c:C)(d:D):vH (A/\B/\C/\D) P:=fun h=>h ⟨a,b,c,d⟩
theorem VI {A B C D E P:Prop}(a:A)(b:B)(c:C)(d:D)(e:E):q_ (A/\B/\C/\D/\E) P:=fun q h=>h ⟨a,b,c,d,e⟩▸q
theorem VH {A B C D E F P:Prop}(a:A)(b:B)(c:C)(d:D)(e:E)(f:F):q_ (A/\B/\C/\D/\E/\F) P:=fun q h=>h ⟨a,b,c,d,e,f⟩▸q
theorem F6 {A B C D E F P:Prop}(a:A)(b:B)(c:C)(d:D)(e:E)(f:F):vH (A/\B/\C/\D/\E/\F) P:=fun h=>h ⟨a,b,c,d,e,f⟩
theorem aD {Γ:Nat->Option F} {G:Nat->List T} {g:Nat} {l:List V} {r:V} {n:Nat} {s:List Res} {c:C} (e:Γ g=some ⟨n,false,s,c⟩:=by rfl) (q:wC Γ G c (qOf Γ G [] (Fi s r)) ⟨slotsC l 0,fun _=>false,fun _=>none,0,0⟩ ⟨0⟩):Den Γ G g l=some r:=px e rfl q
theorem bO {Γ:Nat->Option F} {G:Nat->List T} {g:Nat} {l:List V} {k:Nat->Option O} {m:Nat} {P:V->(Nat->Option O)->Nat->Prop} {n:Nat} {s:List Res} {c:C} (e:Γ g=some ⟨n,true,s,c⟩:=by rfl) (q:wC Γ G c (qOf Γ G [] (FiR s P)) ⟨slotsC l 0,fun _=>false,k,m,m⟩ ⟨0⟩): ∃r h' n',DenR Γ G g l k m=some (r,h',n')/\P r h' n':=VK e rfl q
end Rg
end
section
set_option maxRecDepth 100000
namespace Go.Proofs.YtaiokglcgiemnaaGreatDoor
open Go Rg Go.ChangeShapes Go.WideShapes Go.ChangeAt Go.WideMaps Go.WideElems Go.RowKit
theorem own:ownKnob Tryz.prog.godebug=none:=aj
theorem kcn:laidOutB Tryz.prog=true:=aj
def ty:Tys:=⟨3,4,9,5,28,46,33,31,81,22,109,100,102,36,35,37,39,25,128,23,132,24,27,107,110,49,51,54⟩
theorem kbH:ty.Ok Tryz.prog:=⟨⟨⟨aj,aj,aj,aj,aj,aj,aj,aj,aj,aj,aj,aj,aj,aj,aj,aj,aj,aj,aj,aj,aj,aj⟩,aj⟩,aj,aj,aj,aj,aj⟩
theorem kbG:ty.OkP Tryz.prog:=kbH.toOkP
theorem nO:ty.Ok0 Tryz.prog:=kbG.toOk0
abbrev rQ:List (String×DataW Unit):=Rows.terminationBoundRow.laid
theorem kaE {W:World} (h:laidMetH Tryz.prog rQ W):uP Seat.N (fun r=>r<W.heap.size) W:=by
 intro k j x a
 match k,a with
 | 0, a => exact RV (nm := "relyguard/expr.masks") (g := 0) (k := 0) (t := 149) (e := 3) (ls := [.int .i64 0, .int .i64 1, .int .i64 3, .int .i64 7, .int .i64 15, .int .i64 31, .int .i64 63, .int .i64 127, .int .i64 255]) aj h (zL (i := 3) rfl) aj aj aj (.inr ⟨.i64, aj⟩) aj aj rfl rfl j x a
 | 1,a=>exact(by have c:([]:List T)[j]? =some x:=a;rw[wg]at c;cases c)
 | 2, a => exact RV (nm := "internal/strconv.uint64pow10") (g := 1) (k := 2) (t := 288) (e := 207) (ls := [.int .u64 1, .int .u64 10, .int .u64 100, .int .u64 1000, .int .u64 10000, .int .u64 100000, .int .u64 1000000, .int .u64 10000000, .int .u64 100000000, .int .u64 1000000000, .int .u64 10000000000, .int .u64 100000000000, .int .u64 1000000000000, .int .u64 10000000000000, .int .u64 100000000000000, .int .u64 1000000000000000, .int .u64 10000000000000000, .int .u64 100000000000000000, .int .u64 1000000000000000000, .int .u64 10000000000000000000]) aj h (zL (i := 2) rfl) aj aj aj (.inr ⟨.u64, aj⟩) aj aj rfl rfl j x a
 | k+3,a=>exact(by have c:([]:List T)[j]? =some x:=a;rw[wg]at c;cases c)
theorem inv:Seat.I.Ok Seat.N:=kcL (fun q k h=>by
 split at h
 ·cases h;rename_i a;exact⟨a.symm,by intro h;cases h⟩
 ·split at h
  ·cases h;rename_i a;exact⟨a.symm,by intro h;cases h⟩
  ·cases h)
theorem Vi:S1 Tryz.prog Seat.I Seat.N Rg.Γ:=fun g fn h=>Seat.all (g,fn) (Li h)
theorem kaP {g:Nat} {a:List V} {r:V} (h:Den Rg.Γ Rg.G g a=some r):ow Tryz.prog Seat.N g a r:=
 Zz inv Vi aj (fun _ _ _=>Iff.rfl) (pV.1 h)
theorem ZP (os:Os) (args:Array Value):laidMetH Tryz.prog rQ ((World.doorLaid Tryz.prog 400 os).forCall (fun _ _=>0) ⟨#[],args,[]⟩).memory:=
 laidMetH_of_parts3 (fuel:=8) (laidMet_of_run' 8 aj aj) aj aj
end Go.Proofs.YtaiokglcgiemnaaGreatDoor
end
section
namespace Rg
open Go
theorem pe (n:Int) (k:n<=62):Den Γ G 33 [vi n]=some (vi (2^n.toNat)):=by
 refine aD (q:=aA ?_);refine a8 4088 n.toNat (fun i f=>(f 4).v=vi i/\(f 3).v=vi (2^i)) rfl rfl ⟨am,ak @Int.pow_zero⟩ ?_;rintro i f u m bb hi ⟨c,a⟩;have e:=aB i aa;refine a7 c a e ?_;refine VD c a e ?_ ?_<;>intro h
 ·have j:(2:Int)^i<=2^61:=kZ aa;have g:=iL i;have hp:IntKind.i64.wrap ((2:Int)^i*2)=2^(i+1):=by rw[bu aa,Int.pow_succ]
  exact⟨aa,am,ak hp⟩
 ·have:i=n.toNat:=aa
  rw[this]
def cW (op:Int):Int:=
 if 1<=op/\op<=3 then 0 else if op=4 then 1 else if 5<=op/\op<=13 then 2 else if op=14 then 3 else -1
theorem ZB (op:Int):Den Γ G 116 [vi op]=some (vi (cW op)):=by
 refine aD (q:=aA ?_)
 repeat'(refine bv ?_ ?_<;>intro h)
 all_goals(unfold cW;grind)
theorem QH (e:Expr): ∀l:Int,l<2^40->Den Γ G 47 [(.agg [.t (ti (e).op),.t (ti (e).w),.t (ti (e).n),.t (.sl ((e).kids.map (Expr.enc)))]),vi l]=some (vi (if l<=0 then 0 else min (e.size:Int) l)):=by
 induction e using Expr.ind with
 | _ e t=>
 intro l y;have v:=Expr.size_eq e;have w:=Expr.len_le_size e.kids
 refine aD (q:=aA ?_);refine bv ?_ ?_<;>intro h<;>try exact⟨⟩
 refine a8 4294966880 e.kids.length (fun i f=>(f 6).v=vi i/\(f 5).v=vi (min (1+((e.kids.take i).map Expr.size).sum:Nat) l)) rfl rfl ⟨am,by simp -dsimp only[go_sem,seval];simp;omega⟩ ?_;rintro i f u z bb hi ⟨c,a⟩;have hp:=Expr.take_le_size e.kids i;have j:=Expr.len_le_size (e.kids.take i);rw[bJ,jb hi]at j;refine aJ c a ?_;refine FL c a ?_ ?_<;>intro h
 ·refine FL c a ?_ ?_<;>intro h
  ·have s:=aB i aa;obtain⟨x,g,q⟩:=au ‹i<e.kids.length›;have r:=a_ g;have m:min (((1+((e.kids.take i).map Expr.size).sum:Nat):Int)) l=((1+((e.kids.take i).map Expr.size).sum:Nat):Int):=aa
   rw[m]at a;have k:IntKind.i64.wrap (l-((1+((e.kids.take i).map Expr.size).sum:Nat):Int))=l-((1+((e.kids.take i).map Expr.size).sum:Nat):Int):=bu aa;have o:=t x q (l-((1+((e.kids.take i).map Expr.size).sum:Nat):Int)) aa;refine de c a s g k o ?_;refine⟨aa,am,?_⟩;refine aA ?_;rw[ac aa,r,bu aa];simp only[d6,List.sum_append,aT,bc,rh,List.sum_nil];omega
  ·omega
 ·have:i=e.kids.length:=aa
  subst this;rw[be];omega
def cC (e:Expr):Bool:=
 if cW e.op≠e.kids.length\/e.w<1\/e.w>8 then false
 else if e.op=1 then decide (0<=e.n/\e.n<2^e.w.toNat)
 else if e.op=2\/e.op=3 then decide (0<=e.n/\e.n<32)
 else if e.op=4 then decide (e.n=0/\e.kw 0=e.w)
 else if e.op=11\/e.op=12\/e.op=13 then decide (e.n=0/\e.w=1/\e.kw 0=e.kw 1)
 else if e.op=14 then decide (e.n=0/\e.kw 0=1/\e.kw 1=e.w/\e.kw 2=e.w)
 else decide (e.n=0/\e.kw 0=e.w/\e.kw 1=e.w)
def Expr.deep:Nat->Expr->Bool
 | 0,_=>false
 | d+1,e=>cC e&&e.kids.all (Expr.deep d)
theorem tu {α:Type} {l:List α} {i:Nat} {x:α} {p:α->Bool} (h:l[i]? =some x) (a:(l.take i).all p=true) (c:p x=true):(l.take (i+1)).all p=true:=by
 rw[a_ h,nq,a];simp[c]
theorem pc {α:Type} {l:List α} {x:α} {p:α->Bool} (h:x∈l) (a:p x=false):l.all p=false:=by
 rw[List.all_eq_false];exact⟨x,h,by simp[a]⟩
theorem kaA (op:Int):cW op<=3:=by unfold cW;grind
theorem nW {e:Expr} (h:cC e=true):e.kids.length<=3:=by
 have:=kaA e.op;unfold cC at h;split at h
 ·simp at h
 ·rename_i h';simp only[ml,sQ]at h';omega
end Rg
end
section
-- FULL
namespace Rg
open Go
theorem nz (op:Int):op=1\/op=2\/op=3\/op=4\/op=5\/op=6\/op=7\/op=8\/op=9\/op=10\/op=11\/op=12\/op=13\/op=14\/(op<1\/14<op):=aa
theorem pg {op:Int} (h:op<1\/14<op):cW op= -1:=by unfold cW;grind
set_option maxHeartbeats 2000000
theorem kbf (e:Expr):Den Γ G 89 [(.agg [.t (ti (e).op),.t (ti (e).w),.t (ti (e).n),.t (.sl ((e).kids.map (Expr.enc)))])]=some (vb (cC e)):=by
 refine aD (q:=?_)
 obtain⟨op,w,n,k⟩:=e;have i:=ZB op
 by_cases f:cW op=(k.length:Int)
 ·by_cases q:1<=w/\w<=8
  ·have g: ¬w<1:=aa
   have j: ¬w>8:=aa
   have hp:=pe w aa;rcases nz op with rfl | rfl | rfl | rfl | rfl | rfl | rfl | rfl | rfl | rfl | rfl | rfl | rfl | rfl | o
   rotate_right
   ·rw[pg o]at f;omega
   all_goals(
    rcases k with _ | ⟨a,_ | ⟨b,_ | ⟨c,_ | ⟨d,r⟩⟩⟩⟩
    all_goals(try(exfalso;simp[cW]at f;(try omega);done))
    all_goals(
     simp -dsimp [go_sem,i,hp,f,g,j,sO]
     repeat'(refine F' hp ?_ ?_<;>intro h)
     all_goals(simp only[cC,go_sem,Expr.kw,dh,dR];grind)))
  ·by_cases g:w<1
   ·simp -dsimp [go_sem,i,f,sO,g];simp only[cC,go_sem];grind
   ·have j:w>8:=aa
    simp -dsimp [go_sem,i,f,sO,g,j];simp only[cC,go_sem];grind
 ·have m:(cW op != (k.length:Int))=true:=al f
  refine sJ i m ?_;simp only[cC,go_sem];grind
theorem kau (d:Nat): ∀(e:Expr) (l:Int),l.toNat=d->l<=100->Den Γ G 68 [(.agg [.t (ti (e).op),.t (ti (e).w),.t (ti (e).n),.t (.sl ((e).kids.map (Expr.enc)))]),vi l]=some (vb (e.deep d)):=by
 induction d with
 | zero=>
   intro e l q k
   refine aD (q:=?_)
   have c:l<1:=aa
   refine aw c ?_
   rfl
 | succ d v=>
   intro e l q k
   refine aD (q:=?_)
   have c: ¬l<1:=aa
   have s:=kbf e;refine aJ c s ?_;refine bv ?_ ?_<;>intro h
   ·simp only[Expr.deep,h,ik]
   ·have w:=nW h;refine a8 536862768 e.kids.length (fun i f=>(f 5).v=vi i/\(e.kids.take i).all (Expr.deep d)=true) rfl rfl ⟨am,af⟩ ?_;rintro i f u y bb hi ⟨g,a⟩;have t:=aB i aa;refine aw g ?_;refine bv ?_ ?_<;>intro h
    ·obtain⟨x,j,r⟩:=au ‹i<e.kids.length›;have m:IntKind.i64.wrap (l-1)=l-1:=bu aa;have o:=v x (l-1) aa aa;refine bN g j m o ?_;refine bv ?_ ?_<;>intro h
     ·rw[Expr.deep,pc r h];simp
     ·exact⟨aa,ak t,tu j a h⟩
    ·have:i=e.kids.length:=aa
     subst this;rw[be]at a;simp only[Expr.deep,a,gv];simp_all
def Expr.formed (e:Expr):Bool:=decide (e.size<=600)&&e.deep 40
theorem xO (e:Expr):Den Γ G 48 [(.agg [.t (ti (e).op),.t (ti (e).w),.t (ti (e).n),.t (.sl ((e).kids.map (Expr.enc)))])]=some (vb e.formed):=by
 refine aD (q:=?_)
 have a:=QH e 601 aa;have c:=kau 40 e 40 rfl aa;refine aJ a c ?_;refine bv ?_ ?_<;>intro h
 ·have:e.size<=600:=aa
  simp[Expr.formed,this]
 ·have : ¬e.size<=600:=aa
  simp[Expr.formed,this]
theorem ph (e:Expr) (l:Int) (f:0<=l/\l<10000):Den Γ G 23 [(.agg [.t (ti (e).op),.t (ti (e).w),.t (ti (e).n),.t (.sl ((e).kids.map (Expr.enc)))]),vi l]=some (vb (decide ((e.size:Int)<=l))):=by
 refine aD (q:=?_)
 have c:IntKind.i64.wrap (l+1)=l+1:=bu aa;have a:=QH e (l+1) aa;refine aJ a c ?_;rw[ac aa];simp;omega
def dJ (cells:List Cell) (pair:Bool) (e:Expr):Bool:=
 if e.op=3/\pair=false then false
 else if(e.op=3\/e.op=2)then(match cells[e.n.toNat]? with | some c=>decide (c.w=e.w) | none=>false)
 else true
def Expr.nneg (e:Expr):Bool:=e.allE fun x=>decide (0<=x.n/\x.kids.length<=3)
theorem kbc (cells:List Cell) (pair:Bool) (e:Expr):e.nneg=true->Den Γ G 49 [(.agg [.t (ti (e).op),.t (ti (e).w),.t (ti (e).n),.t (.sl ((e).kids.map (Expr.enc)))]),.t (.sl (cells.map Cell.enc)),vb pair]=some (vb (e.allE (dJ cells pair))):=by
 induction e using Expr.ind with
 | _ e s=>
 intro o;have w:0<=e.n/\e.kids.length<=3:=by have:=Expr.allE_self o;simpa using this
 refine aD (q:=?_)
 rcases r:cells[e.n.toNat]? with _ | c
 ·have t:e.n>=(cells.length:Int):=by rw[oJ]at r;omega
  refine aA ?_
  repeat'(refine bv ?_ ?_<;>intro h)
  all_goals(try(rw[Expr.allE_eq];simp[dJ, *];done))
  all_goals(
   refine a8 144112989052600512 e.kids.length (fun i f=>(f 7).v=vi i/\(e.kids.take i).all (Expr.allE (dJ cells pair))=true) rfl rfl ⟨am,af⟩ ?_;rintro i f u v bb hi ⟨j,a⟩;have q:=aB i aa;refine aw j ?_;refine bv ?_ ?_<;>intro h
   ·obtain⟨x,k,g⟩:=au ‹i<e.kids.length›;have m:=s x g (Expr.allE_kid o g);refine a7 j k m ?_;refine bv ?_ ?_<;>intro h
    ·subst_vars;rw[Expr.allE_eq,pc g h];simp
    ·exact⟨aa,ak q,tu k a h⟩
   ·have:i=e.kids.length:=aa
    subst this;rw[be]at a
    subst_vars;rw[Expr.allE_eq,a];simp[dJ, *])
 ·have t: ¬e.n>=(cells.length:Int):=by
   have:=(zH.1 r).1;omega
  refine aA ?_
  repeat'(refine bv ?_ ?_<;>intro h)
  all_goals(try(rw[Expr.allE_eq];simp[dJ, *];done))
  all_goals(
   refine a8 144112989052600512 e.kids.length (fun i f=>(f 7).v=vi i/\(e.kids.take i).all (Expr.allE (dJ cells pair))=true) rfl rfl ⟨am,af⟩ ?_;rintro i f u v bb hi ⟨j,a⟩;have q:=aB i aa;refine aw j ?_;refine bv ?_ ?_<;>intro h
   ·obtain⟨x,k,g⟩:=au ‹i<e.kids.length›;have m:=s x g (Expr.allE_kid o g);refine a7 j k m ?_;refine bv ?_ ?_<;>intro h
    ·subst_vars;rw[Expr.allE_eq,pc g h];simp
    ·exact⟨aa,ak q,tu k a h⟩
   ·have:i=e.kids.length:=aa
    subst this;rw[be]at a
    subst_vars;rw[Expr.allE_eq,a];simp[dJ, *])
theorem pR {e:Expr} (h:cC e=true):0<=e.n:=by
 unfold cC at h;split at h
 ·simp at h
 ·grind
theorem YY (d:Nat): ∀e:Expr,e.deep d=true->e.nneg=true:=by
 induction d with
 | zero=>intro e h;simp[Expr.deep]at h
 | succ d c=>
   intro e h;simp only[Expr.deep,zF,zN]at h;unfold Expr.nneg;rw[Expr.allE_eq];simp only[zF,zN,aQ];exact⟨⟨pR h.1,nW h.1⟩,fun k a=>c k (h.2 k a)⟩
theorem Yy {e:Expr} (h:e.formed=true):e.nneg=true:=by
 simp only[Expr.formed,zF]at h;exact YY 40 e h.2
def Expr.valid (e:Expr) (cells:List Cell) (pair:Bool):Bool:=e.formed&&e.allE (dJ cells pair)
theorem ue (e:Expr) (cells:List Cell) (pair:Bool):Den Γ G 24 [(.agg [.t (ti (e).op),.t (ti (e).w),.t (ti (e).n),.t (.sl ((e).kids.map (Expr.enc)))]),.t (.sl (cells.map Cell.enc)),vb pair]=some (vb (e.valid cells pair)):=by
 refine aD (q:=?_)
 have c:=xO e
 by_cases a:e.formed=true
 ·have f:=kbc cells pair e (Yy a);refine a7 c f a ?_;simp[Expr.valid,a]
 ·have a:e.formed=false:=al a
  refine aJ c a ?_;simp[Expr.valid,a]
theorem uw (a w:Int) (v:0<=w/\w<=62):IntKind.i64.wrap ((BitVec.ofInt IntKind.i64.bits a&&& BitVec.ofInt IntKind.i64.bits (2^w.toNat-1)).toNat)=a % 2^w.toNat:=by
 have hp:=iL w.toNat
 have j:(BitVec.ofInt 64 a&&& BitVec.ofInt 64 (2^w.toNat-1)).toNat=(a % 2^w.toNat).toNat:=by
  have c:w.toNat<=62:=aa
  generalize w.toNat=k at c
  have f:(2:Int)^k-1=((2^k-1:Nat):Int):=by
   have:0<2^k:=Nat.pow_pos aa;rw[Int.ofNat_sub this];simp
  have o:2^k<=2^62:=rB aa c
  have g:(BitVec.ofInt 64 ((2:Int)^k-1)).toNat=2^k-1:=by
   rw[f];simp only[wc];rw[show(((2^64:Nat):Int))=((2^64:Nat):Int)from rfl,<- Int.natCast_emod,kW,sT aa]
  rw[BitVec.toNat_and,g,Nat.and_two_pow_sub_one_eq_mod,wc]
  have m:(2:Int)^k ∣ ((2^64:Nat):Int):=by
   have:(2:Nat)^k ∣ 2^64:=Nat.pow_dvd_pow 2 aa
   exact_mod_cast this
  have e:0<=a % ((2^64:Nat):Int):=vQ _ aa;have q:(0:Int)<2^k:=iL k
  have:(((a % ((2^64:Nat):Int)).toNat % 2^k:Nat):Int)=a % 2^k:=by
   rw[Int.natCast_emod,Int.toNat_of_nonneg e];rw[show((2^k:Nat):Int)=(2:Int)^k by simp];exact Int.emod_emod_of_dvd a m
  omega
 show IntKind.i64.wrap ((BitVec.ofInt 64 a&&& BitVec.ofInt 64 (2^w.toNat-1)).toNat)=_;rw[j];have r:=vQ a (show(2:Int)^w.toNat≠0 from aa);have s:=Int.emod_lt_of_pos a hp;have t:=kZ (i:=w.toNat) (k:=62) aa;rw[bu aa];omega
theorem sw (n w:Int) (e:0<=w/\w<=62):Den Γ G 117 [vi n,vi w]=some (vi (n % 2^w.toNat)):=by
 refine aD (q:=?_)
 have c:=pe w aa;have f:=kZ (i:=w.toNat) (k:=62) aa;have g:=iL w.toNat;have a:IntKind.i64.wrap ((2:Int)^w.toNat-1)=2^w.toNat-1:=bu aa;refine aJ c a ?_;exact uw n w e
def atI (l:List Int) (n:Int):Int:=l.getD n.toNat 0
theorem Gh (l:List Int) (n:Int) (f:0<=n):Den Γ G 118 [.t (ints l),vi n]=some (vi (atI l n)):=by
 refine aD (q:=?_)
 rcases a:l[n.toNat]? with _ | c
 ·have e: ¬n<(l.length:Int):=by rw[oJ]at a;omega
  simp -dsimp only[go_sem,seval,e];simp[atI,List.getD,a]
 ·have e:n<(l.length:Int):=by have:=(zH.1 a).1;omega
  simp -dsimp only[go_sem,seval,e,f,a];simp[atI,List.getD,a]
theorem n_ {a:Int} (h:0<=a/\a<2^62):(BitVec.ofInt 64 a).toNat=a.toNat:=by
 simp only[wc];omega
theorem PO {a b:Int} (c:0<=a/\a<2^62) (e:0<=b/\b<2^62):IntKind.i64.wrap ((BitVec.ofInt IntKind.i64.bits a&&& BitVec.ofInt IntKind.i64.bits b).toNat)=((a.toNat&&& b.toNat:Nat):Int):=by
 show IntKind.i64.wrap ((BitVec.ofInt 64 a&&& BitVec.ofInt 64 b).toNat)=_;rw[BitVec.toNat_and,n_ c,n_ e];have:a.toNat&&& b.toNat<=a.toNat:=Nat.and_le_left;exact bu aa
theorem R6 {a b:Int} (c:0<=a/\a<2^62) (e:0<=b/\b<2^62):IntKind.i64.wrap ((BitVec.ofInt IntKind.i64.bits a ||| BitVec.ofInt IntKind.i64.bits b).toNat)=((a.toNat ||| b.toNat:Nat):Int):=by
 show IntKind.i64.wrap ((BitVec.ofInt 64 a ||| BitVec.ofInt 64 b).toNat)=_;rw[BitVec.toNat_or,n_ c,n_ e];have:a.toNat ||| b.toNat<2^62:=Nat.or_lt_two_pow aa aa;exact bu aa
theorem NV {a b:Int} (c:0<=a/\a<2^62) (e:0<=b/\b<2^62):IntKind.i64.wrap ((BitVec.ofInt IntKind.i64.bits a^^^ BitVec.ofInt IntKind.i64.bits b).toNat)=((a.toNat^^^ b.toNat:Nat):Int):=by
 show IntKind.i64.wrap ((BitVec.ofInt 64 a^^^ BitVec.ofInt 64 b).toNat)=_;rw[BitVec.toNat_xor,n_ c,n_ e];have:a.toNat^^^ b.toNat<2^62:=Nat.xor_lt_two_pow aa aa;exact bu aa
def opv (op w a b c:Int):Int:=
 if op=4 then 2^w.toNat-1-a
 else if op=5 then((a.toNat&&& b.toNat:Nat):Int)
 else if op=6 then((a.toNat ||| b.toNat:Nat):Int)
 else if op=7 then((a.toNat^^^ b.toNat:Nat):Int)
 else if op=8 then(a+b) % 2^w.toNat
 else if op=9 then(a-b) % 2^w.toNat
 else if op=10 then a*b % 2^w.toNat
 else if op=11 then(if a=b then 1 else 0)
 else if op=12 then(if a<b then 1 else 0)
 else if op=13 then(if a<=b then 1 else 0)
 else(if a=1 then b else c)
def SD (e:Expr) (v:List Int):Prop:=cC e=true/\v.length=e.kids.length/\(∀x∈v,0<=x/\x<256)/\(e.op=14->v.getD 0 0=0\/v.getD 0 0=1)
def rW (e:Expr) (v:List Int):Int:=if e.op=1 then e.n else opv e.op e.w (v.getD 0 0) (v.getD 1 0) (v.getD 2 0)
set_option maxHeartbeats 2000000 in
theorem ZD (e:Expr) (v:List Int) (h:SD e v) (o:e.op≠2/\e.op≠3):Den Γ G 119 [(.agg [.t (ti (e).op),.t (ti (e).w),.t (ti (e).n),.t (.sl ((e).kids.map (Expr.enc)))]),.t (ints v)]=some (vi (rW e v)):=by
 obtain⟨g,s,i,f⟩:=h;obtain⟨op,w,n,t⟩:=e;simp only[Expr.op_mk,Expr.kids_mk]at *
 have k:cW op=(t.length:Int):=by
  unfold cC at g;simp only[Expr.op_mk,Expr.kids_mk]at g;grind
 have V:1<=w/\w<=8:=by
  unfold cC at g;simp only[Expr.w_mk]at g;grind
 have hp:=pe w aa;have R:(2:Int)^w.toNat<=2^8:=kZ aa;have H:=iL w.toNat
 refine aD (q:=?_)
 rcases nz op with rfl | rfl | rfl | rfl | rfl | rfl | rfl | rfl | rfl | rfl | rfl | rfl | rfl | rfl | m
 rotate_right
 ·rw[pg m]at k;omega
 all_goals(try(exfalso;simp at o;done))
 all_goals(
  rcases v with _ | ⟨a,_ | ⟨b,_ | ⟨c,_ | ⟨d,r⟩⟩⟩⟩
  all_goals(try(exfalso;simp[cW]at k s;(try omega);done)))
 all_goals(try(have q:=i a af))
 all_goals(try(have j:=i b af))
 all_goals(try(have U:=i c af))
 all_goals(try(have K:=sw (a+b) w aa))
 all_goals(try(have J:=sw (a-b+2^w.toNat) w aa))
 all_goals(try(have I:=sw (a*b) w aa))
 all_goals(try(have E:0<=a*b/\a*b<=65536:=⟨Int.mul_nonneg q.1 j.1,by
  have S:a*b<=256*b:=G' aa j.1
  omega⟩))
 all_goals(try(have y:IntKind.i64.wrap (a+b)=a+b:=bu aa))
 all_goals(try(have x:IntKind.i64.wrap (a-b)=a-b:=bu aa))
 all_goals(try(have A:IntKind.i64.wrap (a-b+2^w.toNat)=a-b+2^w.toNat:=bu aa))
 all_goals(try(have C:IntKind.i64.wrap (a*b)=a*b:=bu aa))
 all_goals(try(have P:IntKind.i64.wrap (2^w.toNat-1)=2^w.toNat-1:=bu aa))
 all_goals(try(have N:IntKind.i64.wrap (2^w.toNat-1-a)=2^w.toNat-1-a:=bu aa))
 all_goals(try(have L:IntKind.i64.wrap (2-a)=2-a:=bu aa))
 all_goals(try(have D:=PO (a:=a) (b:=b) aa aa))
 all_goals(try(have z:=R6 (a:=a) (b:=b) aa aa))
 all_goals(try(have B:=NV (a:=a) (b:=b) aa aa))
 all_goals(try(rcases f rfl with f | f<;>simp only[dh]at f<;>subst f))
 all_goals simp -dsimp only[go_sem,seval, *]
 all_goals repeat'(refine bv ?_ ?_<;>intro h)
 all_goals(try(simp[rW,opv,go_sem, *];done))
 all_goals(try(simp only[rW,opv,go_sem];grind))
end Rg
end
section
-- FULL
-- APPS
namespace Rg
open Go
namespace Expr
mutual
def ev (c a:List Int):Expr->Int
 | .mk op w n e=>if op=1 then n else if op=2 then atI a n % 2^w.toNat else if op=3 then atI c n % 2^w.toNat
   else opv op w ((evs c a e).getD 0 0) ((evs c a e).getD 1 0) ((evs c a e).getD 2 0)
def evs (c a:List Int):List Expr->List Int
 | []=>[]
 | e::r=>ev c a e::evs c a r
end
theorem iY (c a:List Int): ∀l:List Expr,evs c a l=l.map (ev c a)
 | []=>rfl
 | e::r=>by rw[evs,iY c a r];rfl
theorem ev_eq (c a:List Int) (e:Expr):ev c a e=if e.op=1 then e.n else if e.op=2 then atI a e.n % 2^e.w.toNat else if e.op=3 then atI c e.n % 2^e.w.toNat
 else opv e.op e.w ((e.kids.map (ev c a)).getD 0 0) ((e.kids.map (ev c a)).getD 1 0) ((e.kids.map (ev c a)).getD 2 0):=by
 cases e;simp only[ev,iY,op,w,n,kids];rfl
end Expr
theorem kK {d:Nat} {e:Expr} (h:e.deep d=true):cC e=true:=by
 cases d with
 | zero=>simp[Expr.deep]at h
 | succ d=>simp only[Expr.deep,zF]at h;exact h.1
theorem kJ {d:Nat} {e k:Expr} (h:e.deep (d+1)=true) (a:k∈e.kids):k.deep d=true:=by
 simp only[Expr.deep,zF,zN]at h;exact h.2 k a
theorem sB {e:Expr} (h:cC e=true):1<=e.w/\e.w<=8:=by
 unfold cC at h;grind
theorem mz {e:Expr} (h:cC e=true):cW e.op=(e.kids.length:Int):=by
 unfold cC at h;grind
theorem ZF {a b:Nat} {k:Nat} (c:a<2^k):a&&& b<2^k:=p6 Nat.and_le_left c
theorem tV (g f:List Int) (d:Nat): ∀e:Expr,e.deep d=true->0<=e.ev g f/\e.ev g f<2^e.w.toNat:=by
 induction d with
 | zero=>intro e h;simp[Expr.deep]at h
 | succ d B=>
   intro e h;have j:=kK h;have H:=sB j;have t:=mz j;have m: ∀k∈e.kids,0<=k.ev g f/\k.ev g f<2^k.w.toNat:=fun k m=>B k (kJ h m)
   have A:=iL e.w.toNat;have D:(2:Int)<=2^e.w.toNat:=by have:=kZ (i:=1) (k:=e.w.toNat) aa;simpa using this
   rw[Expr.ev_eq];obtain⟨op,w,n,C⟩:=e;simp only[Expr.op_mk,Expr.w_mk,Expr.n_mk,Expr.kids_mk]at *;have o: ∀a:Int,0<=a % 2^w.toNat/\a % 2^w.toNat<2^w.toNat:=fun a=>⟨vQ _ aa,Int.emod_lt_of_pos _ A⟩
   have E:((2^w.toNat:Nat):Int)=2^w.toNat:=af
   rcases nz op with rfl | rfl | rfl | rfl | rfl | rfl | rfl | rfl | rfl | rfl | rfl | rfl | rfl | rfl | v
   rotate_right
   ·rw[pg v]at t;omega
   all_goals(
    rcases C with _ | ⟨a,_ | ⟨b,_ | ⟨c,_ | ⟨d,r⟩⟩⟩⟩
    all_goals(try(exfalso;simp[cW]at t;(try omega);done)))
   all_goals(try(have q:=m a af))
   all_goals(try(have s:=m b af))
   all_goals(try(have z:=m c af))
   all_goals simp[cC,Expr.kw,go_sem,cW]at j
   all_goals simp[opv,go_sem]
   ·exact nT j.2
   ·exact o _
   ·exact o _
   ·rw[j.2.2]at q;omega
   ·rw[j.2.2.1]at q;have:=ZF (b:=(b.ev g f).toNat) (k:=w.toNat) (show(a.ev g f).toNat<2^w.toNat from aa);omega
   ·rw[j.2.2.1]at q;rw[j.2.2.2]at s;have:=Nat.or_lt_two_pow (n:=w.toNat) (x:=(a.ev g f).toNat) (y:=(b.ev g f).toNat) aa aa;omega
   ·rw[j.2.2.1]at q;rw[j.2.2.2]at s;have:=Nat.xor_lt_two_pow (n:=w.toNat) (x:=(a.ev g f).toNat) (y:=(b.ev g f).toNat) aa aa;omega
   ·exact o _
   ·exact o _
   ·exact o _
   ·split<;>omega
   ·split<;>omega
   ·split<;>omega
   ·rw[j.2.2.2.1]at s;rw[j.2.2.2.2]at z;split<;>omega
theorem R8 {d:Nat} {e:Expr} (g f:List Int) (h:e.deep (d+1)=true):SD e (e.kids.map (Expr.ev g f)):=by
 have j:=kK h;refine⟨j,af,?_,?_⟩
 ·intro x t;obtain⟨k,o,rfl⟩:=cy.1 t;have m:=tV g f d k (kJ h o);have y:=sB (kK (kJ h o));have z:=kZ (i:=k.w.toNat) (k:=8) aa;omega
 ·intro q;have s:=mz j;obtain⟨op,w,n,v⟩:=e;simp only[Expr.op_mk,Expr.kids_mk]at *;subst q;rcases v with _ | ⟨a,_ | ⟨b,_ | ⟨c,_ | ⟨d,r⟩⟩⟩⟩
  all_goals(try(exfalso;simp[cW]at s;(try omega);done))
  have m:=tV g f _ a (kJ h (by simp[Expr.kids_mk]));simp[cC,Expr.kw,go_sem,cW]at j;rw[j.2.2.1,show(2:Int)^(Int.toNat 1)=2 from rfl]at m;show _\/_;simp only[aT,dh];omega
theorem kc4 {e:Expr} (c a:List Int) (f:e.op≠2/\e.op≠3):rW e (e.kids.map (Expr.ev c a))=e.ev c a:=by
 rw[Expr.ev_eq,rW,ac f.1,ac f.2]
set_option maxHeartbeats 2000000 in
theorem Gt (g f:List Int) (d:Nat): ∀e:Expr,e.deep d=true->Den Γ G 90 [(.agg [.t (ti (e).op),.t (ti (e).w),.t (ti (e).n),.t (.sl ((e).kids.map (Expr.enc)))]),.t (ints g),.t (ints f)]=some (vi (e.ev g f)):=by
 induction d with
 | zero=>intro e h;simp[Expr.deep]at h
 | succ d B=>
   intro e h;have t:=kK h;have E:=sB t;have x:=pR t;have D:=mz t;have z:=nW t
   refine aD (q:=?_)
   by_cases q:e.op=2
   ·have o:=Gh f e.n x;have w:=sw (atI f e.n) e.w aa;simp -dsimp [go_sem,aY,q,o,w];rw[Expr.ev_eq,ac aa,ah q]
   ·by_cases o:e.op=3
    ·have y:=Gh g e.n x;have w:=sw (atI g e.n) e.w aa;simp -dsimp [go_sem,aY,o,y,w];rw[Expr.ev_eq,ac aa,ac q,ah o]
    ·have j:=ZD e (e.kids.map (Expr.ev g f)) (R8 g f h) ⟨q,o⟩;rw[kc4 g f ⟨q,o⟩]at j;have m: ∀k∈e.kids,Den Γ G 90 [(.agg [.t (ti (k).op),.t (ti (k).w),.t (ti (k).n),.t (.sl ((k).kids.map (Expr.enc)))]),.t (ints g),.t (ints f)]=some (vi (k.ev g f)):=fun k m=>B k (kJ h m)
     simp -dsimp [go_sem,aY,q,o]
     generalize i:e.kids=C at *
     rcases C with _ | ⟨a,_ | ⟨b,_ | ⟨c,_ | ⟨d,r⟩⟩⟩⟩
     ·simp only[ints,bc]at j;refine bK ?_;simp -dsimp [go_sem,aY,i,j]
     ·have s:=m a af;simp only[ints,bc,aT,Expr.enc_eq]at j;refine bK ?_;simp -dsimp [go_sem,aY,i,s];refine bK ?_;simp -dsimp [go_sem,aY,i,j]
     ·have s:=m a af;have v:=m b af;simp only[ints,bc,aT,Expr.enc_eq]at j;refine bK ?_;simp -dsimp [go_sem,aY,i,s];refine bK ?_;simp -dsimp [go_sem,aY,i,v];refine bK ?_;simp -dsimp [go_sem,aY,i,j]
     ·have s:=m a af;have v:=m b af;have A:=m c af;simp only[ints,bc,aT,Expr.enc_eq]at j;refine bK ?_;simp -dsimp [go_sem,aY,i,s];refine bK ?_;simp -dsimp [go_sem,aY,i,v];refine bK ?_;simp -dsimp [go_sem,aY,i,A];refine bK ?_;simp -dsimp [go_sem,aY,i,j]
     ·exfalso;simp at z
def Expr.eval (e:Expr) (c a:List Int):Int:=if e.formed then e.ev c a else 0
theorem lY {e:Expr} (h:e.formed=true):e.deep 40=true:=by
 simp only[Expr.formed,zF]at h;exact h.2
theorem xr (e:Expr) (f c:List Int):Den Γ G 69 [(.agg [.t (ti (e).op),.t (ti (e).w),.t (ti (e).n),.t (.sl ((e).kids.map (Expr.enc)))]),.t (ints f),.t (ints c)]=some (vi (e.eval f c)):=by
 refine aD (q:=?_)
 have g:=xO e
 by_cases a:e.formed=true
 ·have i:=Gt f c 40 e (lY a);refine VJ @aY.eq_1 g i a ?_;simp[Expr.eval,a]
 ·have a:e.formed=false:=al a
  refine zW @aY.eq_1 g a ?_;simp[Expr.eval,a]
theorem r_ (n w:Int):Den Γ G 61 [vi n,vi w]=some (.agg [.t (ti (Expr.mk 1 w n []).op),.t (ti (Expr.mk 1 w n []).w),.t (ti (Expr.mk 1 w n []).n),.t (.sl ((Expr.mk 1 w n []).kids.map (Expr.enc)))]):=by
 refine aD (q:=?_)
 simp -dsimp [go_sem,aY,bc,kx]
theorem kay (n w:Int):Den Γ G 62 [vi n,vi w]=some (.agg [.t (ti (Expr.mk 2 w n []).op),.t (ti (Expr.mk 2 w n []).w),.t (ti (Expr.mk 2 w n []).n),.t (.sl ((Expr.mk 2 w n []).kids.map (Expr.enc)))]):=by
 refine aD (q:=?_)
 simp -dsimp [go_sem,aY,bc,kx]
theorem yW (op w:Int) (a b:Expr):Den Γ G 63 [vi op,vi w,(.agg [.t (ti (a).op),.t (ti (a).w),.t (ti (a).n),.t (.sl ((a).kids.map (Expr.enc)))]),(.agg [.t (ti (b).op),.t (ti (b).w),.t (ti (b).n),.t (.sl ((b).kids.map (Expr.enc)))])]=some (.agg [.t (ti (Expr.mk op w 0 [a,b]).op),.t (ti (Expr.mk op w 0 [a,b]).w),.t (ti (Expr.mk op w 0 [a,b]).n),.t (.sl ((Expr.mk op w 0 [a,b]).kids.map (Expr.enc)))]):=by
 refine aD (q:=?_)
 simp -dsimp [go_sem,aY,bc,kx]
theorem xw (a:List Expr) (ws:List Int) (q:ws.length<=3):Den Γ G 91 [.t (.sl (a.map Expr.enc)),.t (ints ws)]=some (vb (decide (a.map Expr.w=ws))):=by
 refine aD (q:=aA ?_);refine bv ?_ ?_<;>intro h
 ·have : ¬a.map Expr.w=ws:=fun c=>by have:=bz List.length c;simp at this;omega
  simp[this]
 ·have m:a.length=ws.length:=aa
  refine a8 134201456 ws.length (fun i f=>(f 14).v=vi i/\(a.take i).map Expr.w=ws.take i) rfl rfl ⟨am,af⟩ ?_;rintro i f u r bb hi ⟨k,e⟩;have o:=aB i aa;refine aw k ?_;refine bv ?_ ?_<;>intro h
  ·have g:ws[i]? =some ws[i]:=zI aa;have j:a[i]? =some a[i]:=zI aa;refine a7 k g j ?_;refine bv ?_ ?_<;>intro h
   ·have : ¬a.map Expr.w=ws:=fun c=>by
     have:=bz (fun l=>l[i]?) c;simp only[zJ,g,j,cZ,zA]at this;contradiction
    simp[this]
   ·refine⟨aa,ak o,?_⟩;rw[a_ g,a_ j,d6,e];simp[h]
  ·have:i=ws.length:=aa
   subst this;rw[be,<- m,be]at e;simp[e]
@[go_sem]theorem G_0:G 0=[ti 0,ti 1,ti 3,ti 7,ti 15,ti 31,ti 63,ti 127,ti 255]:=rfl
theorem qh {w:Int} (h:1<=w/\w<=8):w=1\/w=2\/w=3\/w=4\/w=5\/w=6\/w=7\/w=8:=aa
theorem PG {op:Int} (h:5<=op/\op<=13):cW op=2:=by unfold cW;grind
theorem pI (op w n:Int) (a:List Expr):cC (.mk op w n a)=
 if cW op≠a.length\/w<1\/w>8 then false
 else if op=1 then decide (0<=n/\n<2^w.toNat)
 else if op=2\/op=3 then decide (0<=n/\n<32)
 else if op=4 then decide (n=0/\(Expr.mk op w n a).kw 0=w)
 else if op=11\/op=12\/op=13 then decide (n=0/\w=1/\(Expr.mk op w n a).kw 0=(Expr.mk op w n a).kw 1)
 else if op=14 then decide (n=0/\(Expr.mk op w n a).kw 0=1/\(Expr.mk op w n a).kw 1=w/\(Expr.mk op w n a).kw 2=w)
 else decide (n=0/\(Expr.mk op w n a).kw 0=w/\(Expr.mk op w n a).kw 1=w):=rfl
theorem qU (op w n:Int) (a:Expr) (r:List Expr):(Expr.mk op w n (a::r)).kw 0=a.w:=rfl
theorem rX (op w n:Int) (a b:Expr) (r:List Expr):(Expr.mk op w n (a::b::r)).kw 1=b.w:=rfl
theorem U4 (op w n:Int) (a b c:Expr) (r:List Expr):(Expr.mk op w n (a::b::c::r)).kw 2=c.w:=rfl
theorem ju {op w n:Int} {e:List Expr} (h:5<=op/\op<=10) (f:1<=w/\w<=8):cC (.mk op w n e)=decide (n=0/\e.map Expr.w=[w,w]):=by
 rw[pI,PG (show 5<=op/\op<=13 from aa),ac (show ¬op=1 from aa),ac (show ¬(op=2\/op=3) from aa),ac (show ¬op=4 from aa),ac (show ¬(op=11\/op=12\/op=13) from aa),ac (show ¬op=14 from aa)];rcases e with _ | ⟨a,_ | ⟨b,_ | ⟨c,r⟩⟩⟩
 ·rw[ah af];simp
 ·rw[ah af];simp
 ·rw[ac (by simp;omega),qU,rX];simp
 ·rw[ah (by simp;omega)];simp
theorem qg {op w n:Int} {a:List Expr} (h:11<=op/\op<=13) (e:1<=w/\w<=8):cC (.mk op w n a)=decide (n=0/\w=1/\a.length=2/\(Expr.mk op w n a).kw 0=(Expr.mk op w n a).kw 1):=by
 rw[pI,PG (show 5<=op/\op<=13 from aa),ac (show ¬op=1 from aa),ac (show ¬(op=2\/op=3) from aa),ac (show ¬op=4 from aa),ah (show(op=11\/op=12\/op=13) from aa)]
 by_cases c:a.length=2
 ·rw[ac aa];simp[c]
 ·rw[ah aa];simp[c]
theorem Lf {w n:Int} {c:List Expr} (e:1<=w/\w<=8):cC (.mk 4 w n c)=decide (n=0/\c.map Expr.w=[w]):=by
 rw[pI,show cW 4=1 from rfl,ac (show ¬(4:Int)=1 from aa),ac (show ¬((4:Int)=2\/(4:Int)=3) from aa),ah rfl];rcases c with _ | ⟨a,_ | ⟨b,r⟩⟩
 ·rw[ah af];simp
 ·rw[ac (by simp;omega),qU];simp
 ·rw[ah (by simp;omega)];simp
theorem Lt {w n:Int} {e:List Expr} (f:1<=w/\w<=8):cC (.mk 14 w n e)=decide (n=0/\e.map Expr.w=[1,w,w]):=by
 rw[pI,show cW 14=3 from rfl,ac (show ¬(14:Int)=1 from aa),ac (show ¬((14:Int)=2\/(14:Int)=3) from aa),ac (show ¬(14:Int)=4 from aa),ac (show ¬((14:Int)=11\/(14:Int)=12\/(14:Int)=13) from aa),ah rfl];rcases e with _ | ⟨a,_ | ⟨b,_ | ⟨c,_ | ⟨d,r⟩⟩⟩⟩
 ·rw[ah af];simp
 ·rw[ah af];simp
 ·rw[ah af];simp
 ·rw[ac (by simp;omega),qU,rX,U4];simp
 ·rw[ah (by simp;omega)];simp
theorem tv {op w n:Int} {e:List Expr} (h:1<=op/\op<=3) (g:1<=w/\w<=8):cC (.mk op w n e)=decide (e.length=0/\0<=n/\(if op=1 then n<2^w.toNat else n<32)):=by
 have f:cW op=0:=by unfold cW;rw[ah h]
 rw[pI,f]
 by_cases c:e.length=0
 ·rw[ac aa]
  by_cases a:op=1
  ·simp[a,c]
  ·rw[ac a,ah aa];simp[a,c]
 ·rw[ah aa];simp[c]
theorem Lv {op w n:Int} {a:List Expr} (h:op<1\/14<op):cC (.mk op w n a)=false:=by
 rw[pI,pg h,ah aa]
theorem Zc {op w n:Int} {f:List Expr} (h: ¬(1<=op/\op<=3)) (c:1<=w/\w<=8) (a: ¬n=0):cC (.mk op w n f)=false:=by
 rcases nz op with rfl | rfl | rfl | rfl | rfl | rfl | rfl | rfl | rfl | rfl | rfl | rfl | rfl | rfl | e
 ·omega
 ·omega
 ·omega
 ·rw[Lf c];simp[a]
 ·rw[ju aa c];simp[a]
 ·rw[ju aa c];simp[a]
 ·rw[ju aa c];simp[a]
 ·rw[ju aa c];simp[a]
 ·rw[ju aa c];simp[a]
 ·rw[ju aa c];simp[a]
 ·rw[qg aa c];simp[a]
 ·rw[qg aa c];simp[a]
 ·rw[qg aa c];simp[a]
 ·rw[Lt c];simp[a]
 ·exact Lv e
set_option maxHeartbeats 4000000 in
theorem X1 (e:Expr):Den Γ G 71 [.t (.ip [ti e.op,ti e.w,ti e.n,.sl (e.kids.map Expr.enc)])]=some (vb (cC e)):=by
 obtain⟨op,w,n,m⟩:=e;simp only[Expr.op_mk,Expr.w_mk,Expr.n_mk,Expr.kids_mk]
 refine aD (q:=?_)
 by_cases i:1<=w/\w<=8
 ·have f: ¬w<1:=aa
  have g: ¬w>8:=aa
  have o:=xw m [w] af;have k:=xw m [w,w] af;have q:=xw m [1,w,w] af;simp only[ints,aT,bc]at o k q
  by_cases s:op=1
  ·subst s;rw[tv aa i];clear o k q;rcases qh i with rfl | rfl | rfl | rfl | rfl | rfl | rfl | rfl
   all_goals(
    refine aA ?_
    repeat'(refine bv ?_ ?_<;>intro h)
    all_goals((try simp only[Int.reduceToNat,Int.reducePow,Int.reduceEq,reduceIte]);first | exact(ep aa).symm | (simp;done) | (apply sR.2;omega)))
  ·by_cases A:op=2\/op=3
   ·rw[tv aa i];clear o k q;rcases A with rfl | rfl
    all_goals(
     refine aJ f g ?_
     repeat'(refine bv ?_ ?_<;>intro h)
     all_goals((try simp only[Int.reduceEq,reduceIte]);first | exact(ep aa).symm | (simp;done) | (apply sR.2;omega)))
   ·have x: ¬op=2:=aa
    have y: ¬op=3:=aa
    by_cases j:n=0
    ·rcases nz op with rfl | rfl | rfl | rfl | rfl | rfl | rfl | rfl | rfl | rfl | rfl | rfl | rfl | rfl | z
     ·omega
     ·omega
     ·omega
     ·rw[Lf i];exact k_ f g j o
     ·rw[ju aa i];exact k_ f g j k
     ·rw[ju aa i];exact k_ f g j k
     ·rw[ju aa i];exact k_ f g j k
     ·rw[ju aa i];exact k_ f g j k
     ·rw[ju aa i];exact k_ f g j k
     ·rw[ju aa i];exact k_ f g j k
     ·rw[qg aa i];rcases m with _ | ⟨a,_ | ⟨b,_ | ⟨c,r⟩⟩⟩
      all_goals(
       refine a7 f g j ?_
       repeat'(refine bv ?_ ?_<;>intro h)
       all_goals(simp[qU,rX, *])
       all_goals(first | rfl | omega))
     ·rw[qg aa i];rcases m with _ | ⟨a,_ | ⟨b,_ | ⟨c,r⟩⟩⟩
      all_goals(
       refine a7 f g j ?_
       repeat'(refine bv ?_ ?_<;>intro h)
       all_goals(simp[qU,rX, *])
       all_goals(first | rfl | omega))
     ·rw[qg aa i];rcases m with _ | ⟨a,_ | ⟨b,_ | ⟨c,r⟩⟩⟩
      all_goals(
       refine a7 f g j ?_
       repeat'(refine bv ?_ ?_<;>intro h)
       all_goals(simp[qU,rX, *])
       all_goals(first | rfl | omega))
     ·rw[Lt i];exact k_ f g j q
     ·rw[Lv z];have B: ¬op=4:=aa
      have C: ¬op=5:=aa
      have D: ¬op=6:=aa
      have E: ¬op=7:=aa
      have H: ¬op=8:=aa
      have I: ¬op=9:=aa
      have J: ¬op=10:=aa
      have K: ¬op=11:=aa
      have L: ¬op=12:=aa
      have t: ¬op=13:=aa
      have v: ¬op=14:=aa
      simp -dsimp only[go_sem,seval,f,g,j,s,x,y,B,C,D,E,H,I,J,K,L,t,v]
    ·rw[Zc aa i j];exact pv f g s x y j
 ·by_cases f:w<1
  ·refine aw f ?_;simp only[cC,go_sem];grind
  ·have g:w>8:=aa
   refine aJ f g ?_;simp only[cC,go_sem];grind
theorem uo {α:Type} (f:Nat->α) (i:Nat) (v w:α):updC (updC f i v) i w=updC f i w:=by
 rw[cq];funext j;unfold upd;split<;>rfl
def Vl (h:ae) (c:Nat) (v:V) (e:Expr):Prop:=
 v= .t (.ip [ti e.op,ti e.w,ti e.n,.sl (e.kids.map Expr.enc)])\/
 ∃k a,v= .mp k 0 0/\k≠c/\h k=some (.rows 4 [[.t (ti e.op),.t (ti e.w),.t (ti e.n),.t (.sl (e.kids.map Expr.enc))]] a)
theorem YM (d:Nat): ∀(e:Expr) (v:V) (c:Int) (H:ae) (n g kv:Nat) (o:Bool),
 d<=40->Vl H g v e->0<=c->c<=600->kv≠g->H g=some (.rows 1 [[vi c]] false)->H kv=some (.rows 1 [[.fn 70 [] [.mp g 0 0,.mp kv 0 0]]] o)->
 ∃r h' N,DenR Γ G 70 [v,vi (41-d),.mp g 0 0,.mp kv 0 0] H n=some (r,h',N)/\
  r=vb (e.deep d&&decide (c+e.size<=600))/\ ∃a:Int,h'=updC H g (some (.rows 1 [[vi a]] false))/\(e.deep d=true->c+e.size<=600->a=c+e.size):=by
 induction d with
 | zero=>
   intro e v c H n g kv o hd A X hc j t w
   refine bO (q:=?_)
   have q:IntKind.i64.wrap (c+1)=c+1:=bu aa;have z:(41-((0:Nat):Int))>40:=aa
   rcases A with rfl | ⟨k,fk,rfl,K,P⟩
   all_goals(
    refine a7 t q z ?_
    repeat'(refine bv ?_ ?_<;>intro h)
    all_goals(exact⟨by simp -dsimp only[go_sem,seval,Expr.deep,ik],c+1,am,by simp[Expr.deep]⟩))
 | succ d ih=>
   intro e v c H n g kv o hd A X hc j t w
   refine bO (q:=?_)
   have q:IntKind.i64.wrap (c+1)=c+1:=bu aa;have z: ¬(41-((d+1:Nat):Int))>40:=aa
   have S:IntKind.i64.wrap (41-((d+1:Nat):Int)+1)=41-(d:Int):=by rw[bu aa];omega
   have Bo:=X1 e;have AS:=Expr.size_eq e;have CB:=Expr.size_pos e;rcases A with rfl | ⟨k,fk,rfl,K,P⟩
   all_goals(
    have D:=q
    (try have D:=K)
    refine a7 t q z ?_;refine bv ?_ ?_<;>intro h
    ·refine⟨?_,c+1,am,fun _ C=>aa⟩;refine aA ?_;have : ¬(c+(e.size:Int)<=600):=aa
     simp[this]
    ·refine bv ?_ ?_<;>intro h
     ·refine⟨?_,c+1,am,fun m=>by rw[kK m]at h;simp at h⟩;refine aA ?_;simp[Expr.deep,h]
     ·have Ac:=nW h
      refine aS 2198956146880 e.kids.length (fun i f J x=>(f 26).v=vi i/\ ∃a:Int,J=updC H g (some (.rows 1 [[vi a]] false))/\a=c+1+((e.kids.take i).map Expr.size).sum/\a<=600/\(e.kids.take i).all (Expr.deep d)=true) rfl
       ⟨am,c+1,am,af,aa,af⟩ ?_
      rintro i f u J x bs hi ⟨E,a,rfl,U,C,s⟩;have R:=aB i aa;refine aw E ?_;refine bv ?_ ?_<;>intro h
      ·obtain⟨y,B,L⟩:=au ‹i<e.kids.length›;refine de E B j w S D ?_;refine bf (ih y _ a _ _ g kv o aa (.inl rfl) aa C j (by rw[aq];simp) (by rw[aq];simp[j,w])) ?_;rintro r h' N ⟨rfl,I,rfl,W⟩;refine aA ?_;have FR:=Expr.take_le_size e.kids (i+1)
       have Hw:((e.kids.take (i+1)).map Expr.size).sum=((e.kids.take i).map Expr.size).sum+y.size:=by
        rw[a_ B];simp
       refine bv ?_ ?_<;>intro h
       ·refine⟨?_,I,ak @uo,fun m Y=> ?_⟩
        ·refine aA ?_;simp only[lA,d8]at h;rcases h with h | h
         ·rw[Expr.deep,pc L h];simp
         ·have : ¬c+(e.size:Int)<=600:=aa
          simp[this]
        ·have Z:=kJ m L;have:a+(y.size:Int)<=600:=aa
         simp[Z,this]at h
       ·simp only[zF,aQ]at h;have h2:=W h.1 h.2;exact⟨aa,ak R,I,ak @uo,aa,aa,tu B s h.1⟩
      ·have:i=e.kids.length:=aa
       subst this;rw[be]at s U;refine⟨?_,a,am,fun m Y=>aa⟩;refine aA ?_;have:c+(e.size:Int)<=600:=aa
       simp[Expr.deep,s,this,‹cC e=true›])
theorem wY (e:Expr):Den Γ G 51 [(.agg [.t (ti (e).op),.t (ti (e).w),.t (ti (e).n),.t (.sl ((e).kids.map (Expr.enc)))])]=some (vb e.formed):=by
 refine aD (q:=aA ?_);refine bf (YM 40 e _ 0 _ _ _ _ false aa (.inr ⟨_,false,rfl,?_,?_⟩) aa aa ?_ ?_ ?_) ?_
 ·decide
 ·exact am
 ·decide
 ·exact am
 ·exact am
 ·rintro r h' c ⟨rfl,a,rfl,_⟩;refine aA ?_;simp only[Expr.formed];rw[Bool.and_comm]
  congr 1
  by_cases h:e.size<=600
  ·simp[h];omega
  ·simp[h];omega
end Rg
end
