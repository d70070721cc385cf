/- Part of the proof of laws of relyguardtop. No condition. -/
import Derived.Test.YtoidcnbdndioaaaGreatDoorJartAI
import Derived.Stop.Joined
import Derived.ProofKit
import Derived.LaidMore
import Derived.Test.YtoidcnbdndioaaaGreatDoorJartAH
set_option linter.unusedSimpArgs false
set_option linter.unusedVariables false
section
namespace Rg
open Go
section
variable {Γ:Nat->Option F} {G:Nat->List T}
variable (G) in
def zjn (sl:Nat->Slot):List V->List (Nat×Nat×Opd)->Option (List V)
 | cs,[]=>some cs
 | cs,(off,k,x)::r=>ob (zaW G sl x) (fun v=>ob v.cells (fun new=>if new.length=k then ob (wr cs off new) (fun cs'=>zjn sl cs' r) ⟨0⟩else none) ⟨0⟩) ⟨0⟩
@[go_sem ↓]theorem zxx (sl:Nat->Slot) (cs:List V):zjn G sl cs []=some cs:=rfl
@[go_sem ↓]theorem zol (sl:Nat->Slot) (cs:List V) (off k:Nat) (x:Opd) (r:List (Nat×Nat×Opd)):
 zjn G sl cs ((off,k,x)::r)=ob (zaW G sl x) (fun v=>ob v.cells (fun new=>if new.length=k then ob (wr cs off new) (fun cs'=>zjn G sl cs' r) ⟨0⟩else none) ⟨0⟩) ⟨0⟩:=rfl
theorem zm4 (sl:Nat->Slot) (u:Nat->Bool) (h:Nat->Option O) (n b:Nat): ∀(r:List (Nat×Nat×Opd)) (cs:List V),zbY G cs (M.st ⟨sl,u,h,n,b⟩) r=zjn G sl cs r
 | [],cs=>rfl
 | (off,k,x)::r,cs=>by
   rw[zbY,zol,za2];simp only[ob,zC]
   congr 1;funext v;congr 1;funext new
   split
   ·congr 1;funext cs';exact zm4 sl u h n b r cs'
   ·rfl
variable (G) in
def zjm (sl:Nat->Slot) (sz:Nat):List (List V)->List (Nat×Opd)->Option (List (List V))
 | rs,[]=>some rs
 | rs,(i,x)::r=>ob (zaW G sl x) (fun v=>ob v.cells (fun new=>if new.length=sz/\i<rs.length then zjm sl sz (rs.set i new) r else none) ⟨0⟩) ⟨0⟩
@[go_sem ↓]theorem zxw (sl:Nat->Slot) (sz:Nat) (rs:List (List V)):zjm G sl sz rs []=some rs:=rfl
@[go_sem ↓]theorem zok (sl:Nat->Slot) (sz:Nat) (rs:List (List V)) (i:Nat) (x:Opd) (r:List (Nat×Opd)):
 zjm G sl sz rs ((i,x)::r)=ob (zaW G sl x) (fun v=>ob v.cells (fun new=>if new.length=sz/\i<rs.length then zjm G sl sz (rs.set i new) r else none) ⟨0⟩) ⟨0⟩:=rfl
theorem zm3 (sl:Nat->Slot) (u:Nat->Bool) (h:Nat->Option O) (n b sz:Nat): ∀(r:List (Nat×Opd)) (rs:List (List V)),zcH G rs sz (M.st ⟨sl,u,h,n,b⟩) r=zjm G sl sz rs r
 | [],rs=>rfl
 | (i,x)::r,rs=>by
   rw[zcH,zok,za2];simp only[ob,zC]
   congr 1;funext v;congr 1;funext new
   split
   ·exact zm3 sl u h n b sz r _
   ·rfl
variable (G) in
def zpG (sl:Nat->Slot) (d:Nat):Option Opd->Option Int
 | none=>some d
 | some x=>ob (zaW G sl x) zji ⟨0⟩
@[go_sem ↓]theorem zCI (sl:Nat->Slot) (d:Nat):zpG G sl d none=some (d:Int):=rfl
@[go_sem ↓]theorem zCH (sl:Nat->Slot) (d:Nat) (x:Opd):zpG G sl d (some x)=ob (zaW G sl x) zji ⟨0⟩:=rfl
theorem zsU (sl:Nat->Slot) (u:Nat->Bool) (h:Nat->Option O) (n b d:Nat) (x:Option Opd):zew G (M.st ⟨sl,u,h,n,b⟩) d x=zpG G sl d x:=by
 cases x with
 | none=>rfl
 | some x=>simp only[zew,zds,zpG,ob]
def zkk (h:Nat->Option O) (sz:Nat) (lo hi:Int):V->Option V
 | .ms k i _=>match h k with
   | some (.rows sz' rs _)=>if sz'=sz/\0<=lo/\lo<=hi/\(i:Int)+hi<=rs.length then some (.ms k (i+lo.toNat) (hi-lo).toNat)else none
   | _=>none
 | _=>none
def zry (h:Nat->Option O) (sz n:Nat) (lo hi:Int) (v:V):Option V:=
 if 0<=lo/\lo<=hi/\hi<=n then
  match v with
  | .t .nils=>some (.t .nils)
  | .t (.sl es)=>if es.all (·.length=sz)then some (.t (.sl ((es.drop lo.toNat).take (hi-lo).toNat)))else none
  | .ms k i _=>match h k with
    | some (.rows sz' _ _)=>if sz'=sz then some (.ms k (i+lo.toNat) (hi-lo).toNat)else none
    | _=>none
  | _=>none
 else zkk h sz lo hi v
def zC1:V->Option ByteArray
 | .t (.str b)=>some b
 | _=>none
attribute [go_sem] zry zC1 zmn
variable (d:Bool) (p:Nat) (l:List ROp) (Q:M->Prop) (sl:Nat->Slot) (u:Nat->Bool) (h:Nat->Option O) (n b:Nat)
@[go_sem ↓]theorem zBa (t:Nat) (z:List V) (ps:List (Nat×Nat×Opd)) (w:W4 _ _ _ _):
 wO Γ G d p (⟨none,some t,.build z ps⟩::l) Q ⟨sl,u,h,n,b⟩ w=zdr (u t) (ob (zjn G sl z ps) (fun cs=>some (.agg cs)) ⟨0⟩) (fun v=>wO Γ G d (p+1) l Q ⟨updC sl t ⟨v,none,none⟩,u,h,n,b⟩ ⟨0⟩) ⟨0⟩:=by
 refine zbW rfl ?_;simp only[zaj,zm4,ob];cases zjn G sl z ps<;>rfl
@[go_sem ↓]theorem zAX (t:Nat) (sz:Nat) (x:Opd) (lo hi:Option Opd) (w:W4 _ _ _ _):
 wO Γ G d p (⟨none,some t,.slice sz x lo hi none⟩::l) Q ⟨sl,u,h,n,b⟩ w=zdr (u t) (ob (zaW G sl x) (fun v=>ob (lenS h v) (fun k=>ob (zpG G sl k hi) (fun AK=>ob (zpG G sl 0 lo) (fun lo'=>zry h sz k lo' AK v) ⟨0⟩) ⟨0⟩) ⟨0⟩) ⟨0⟩) (fun v=>wO Γ G d (p+1) l Q ⟨updC sl t ⟨v,none,none⟩,u,h,n,b⟩ ⟨0⟩) ⟨0⟩:=by
 refine zbW rfl ?_;simp only[zaj,za2,ob,zlw,zsU]
 cases zaW G sl x with
 | none=>rfl
 | some v=>
   simp only[zC,zD]
   cases lenS h v with
   | none=>rfl
   | some k=>
     simp only[zD]
     cases zpG G sl k hi with
     | none=>rfl
     | some AK=>
       simp only[zD]
       cases zpG G sl 0 lo with
       | none=>rfl
       | some lo'=>
         simp only[zD,zry];split
         ·cases v with
          | t x=>cases x with
            | sl es=>simp only;split<;>rfl
            | _=>rfl
          | ms q i j=>
            simp only[M.st]
            cases h q with
            | none=>rfl
            | some o=>cases o with
              | rows s rs z=>simp only;split<;>rfl
              | _=>rfl
          | _=>rfl
         ·cases v with
          | ms q i j=>
            simp only[M.st,zkk]
            cases h q with
            | none=>rfl
            | some o=>cases o with
              | rows s rs z=>simp only;split<;>rfl
              | _=>rfl
          | _=>rfl
attribute [go_sem] zqq zeF
@[go_sem ↓]theorem zB9 (t:Nat) (f:Nat) (x y:List Opd) (w:W4 _ _ _ _):
 wO Γ G d p (⟨none,some t,.mkfn f x y⟩::l) Q ⟨sl,u,h,n,b⟩ w=zdr (u t) (ob (zdE G sl x) (fun a=>ob (zdE G sl y) (fun c=>zqq f a c) ⟨0⟩) ⟨0⟩) (fun v=>wO Γ G d (p+1) l Q ⟨updC sl t ⟨v,none,none⟩,u,h,n,b⟩ ⟨0⟩) ⟨0⟩:=by
 refine zbW rfl ?_;simp only[zaj,zgD,ob]
 cases zdE G sl x with
 | none=>rfl
 | some a=>
   simp only[zC,zD]
   cases zdE G sl y with
   | none=>rfl
   | some c=>simp only[zD];(cases zqq f a c<;>rfl)
@[go_sem ↓]theorem zzu (t:Nat) (cs:List V) (w:W4 _ _ _ _):
 wO Γ G d p (⟨none,some t,.allocH cs⟩::l) Q ⟨sl,u,h,n,b⟩ w=ziX (u t) (some (V.mp (b+p) 0 0,[(b+p,O.rows cs.length [cs] false)])) (fun v hp=>wO Γ G d (p+1) l Q ⟨updC sl t ⟨v,none,none⟩,u,At h hp,n,b⟩ ⟨0⟩) ⟨0⟩:=by
 refine zma rfl ?_;rfl
def zKI (h:Nat->Option O) (n:Nat) (lo hi:Option Int):V->Option V
 | .mp k 0 0=>match h k with
   | some (.rows 1 rs _)=>hi.bind fun hi=>lo.bind fun lo=>if 0<=lo/\lo<=hi/\hi<=n/\rs.length=n then some (.ms k lo.toNat (hi-lo).toNat)else none
   | _=>none
 | _=>none
attribute [go_sem] zKI
def zJ9 (h:Nat->Option O) (n:Nat) (o:Option (List V)):V->Option (V×List (Nat×O))
 | .mp k 0 0=>match h k with
   | some (.rows 1 rs false)=>o.bind fun new=>if new.length=n/\rs.length=n then some (.undef,[(k,.rows 1 (new.map fun c=>[c]) false)])else none
   | _=>none
 | _=>none
attribute [go_sem] zJ9
@[go_sem ↓]theorem zCo (t:Nat) (k:Nat) (x:Opd) (w:W4 _ _ _ _):
 wO Γ G d p (⟨none,some t,.boxH k x⟩::l) Q ⟨sl,u,h,n,b⟩ w=ziX (u t) (ob (zaW G sl x) (fun v=>ob v.cells (fun cs=>if cs.length=k then some (V.mp (b+p) 0 0,[(b+p,O.rows k [cs] false)])else none) ⟨0⟩) ⟨0⟩) (fun v hp=>wO Γ G d (p+1) l Q ⟨updC sl t ⟨v,none,none⟩,u,At h hp,n,b⟩ ⟨0⟩) ⟨0⟩:=by
 refine zma rfl ?_;simp only[zaj,za2,ob]
 cases zaW G sl x with
 | none=>rfl
 | some v=>
   simp only[zC,zD]
   cases v.cells with
   | none=>rfl
   | some cs=>simp only[zD];split<;>rfl
@[go_sem ↓]theorem zzq (t:Nat) (sz len:Nat) (z:List V) (ps:List (Nat×Opd)) (w:W4 _ _ _ _):
 wO Γ G d p (⟨none,some t,.bslice sz len z ps⟩::l) Q ⟨sl,u,h,n,b⟩ w=ziX (u t) (ob (zjm G sl sz (List.replicate len z) ps) (fun rs=>some (V.ms (b+p) 0 len,[(b+p,O.rows sz rs false)])) ⟨0⟩) (fun v hp=>wO Γ G d (p+1) l Q ⟨updC sl t ⟨v,none,none⟩,u,At h hp,n,b⟩ ⟨0⟩) ⟨0⟩:=by
 refine zma rfl ?_;simp only[zaj,zm3,ob];cases zjm G sl sz (List.replicate len z) ps<;>rfl
def zrq (h:Nat->Option O) (k:Nat) (new:List V):V->Option (V×List (Nat×O))
 | .mp q i off=>match h q with
   | some (.rows sz rs false)=>(rs[i]?).bind fun row=>if new.length=k then(wr row off new).bind fun row'=>some (V.undef,[(q,O.rows sz (rs.set i row') false)])else none
   | _=>none
 | _=>none
def zck (h:Nat->Option O) (q:Nat) (sz bytes:Nat) (u:V) (a b:List (List V)):Option (V×List (Nat×O)):=
 if(a.length+b.length<=2^32/\bytes<=2^12)/\b.all (·.length=sz)/\a.all (·.length=sz)then
  if b.isEmpty then some (u,[])
  else match u with
   | .t .nils=>some (.ms q 0 b.length,[(q,.rows sz b false)])
   | .t (.slc _)=>((a++b).mapM zeF).bind fun ts=>some (.t (.sl ts),[])
   | .ms k i _=>match h k with
     | some (.rows sz' rs false)=>if sz'=sz/\i=0 then some (.ms q 0 (a.length+b.length),[(k,.dead),(q,.rows sz (zbU a b rs) false)])else none
     | _=>none
   | _=>none
 else none
@[go_sem]theorem zfP {α:Type} (a b:List α):zbU a b a=a++b:=if_pos (Nat.le_add_right _ _)
def zxb (h:Nat->Option O) (sz:Nat) (b:List (List V)):V->Option (V×List (Nat×O))
 | .t .nils=>some (.t (.int .i64 0),[])
 | .ms k i len=>match h k with
   | some (.rows sz' rs false)=>if sz'=sz/\b.all (·.length=sz)then(wr rs i (b.take len)).bind fun rs'=>some (.t (.int .i64 (min b.length len:Nat)),[(k,.rows sz rs' false)])else none
   | _=>none
 | _=>none
attribute [go_sem] zrq zxb
@[go_sem ↓]theorem zAW (k:Nat) (a x:Opd) (w:W4 _ _ _ _):
 wO Γ G d p (⟨none,none,.store k a x⟩::l) Q ⟨sl,u,h,n,b⟩ w=ziX false (ob (zaW G sl a) (fun q=>ob (zaW G sl x) (fun v=>ob v.cells (fun new=>zrq h k new q) ⟨0⟩) ⟨0⟩) ⟨0⟩) (fun _ hp=>wO Γ G d (p+1) l Q ⟨sl,u,At h hp,n,b⟩ ⟨0⟩) ⟨0⟩:=by
 refine zrd rfl ?_;simp only[zaj,za2,ob]
 cases zaW G sl a with
 | none=>rfl
 | some q=>
   simp only[zC,zD]
   cases hx:zaW G sl x with
   | none=>
     cases q with
     | mp j i off=>
       simp only[M.st,Option.bind_none]
       cases h j with
       | none=>rfl
       | some o=>cases o with
         | rows sz rs z=>cases z with
           | false=>simp only;cases rs[i]? <;>rfl
           | true=>rfl
         | _=>rfl
     | _=>rfl
   | some v=>
     simp only[zD]
     cases hc:v.cells with
     | none=>
       cases q with
       | mp j i off=>
         simp only[M.st,Option.bind_none]
         cases h j with
         | none=>rfl
         | some o=>cases o with
           | rows sz rs z=>cases z with
             | false=>simp only;cases rs[i]? <;>rfl
             | true=>rfl
           | _=>rfl
       | _=>rfl
     | some new=>
       cases q with
       | mp j i off=>
         simp only[M.st,zD,zrq]
         cases h j with
         | none=>rfl
         | some o=>cases o with
           | rows sz rs z=>cases z with
             | false=>
               simp only
               cases rs[i]? with
               | none=>rfl
               | some row=>
                 simp only[zD];split
                 ·cases wr row off new<;>rfl
                 ·rfl
             | true=>rfl
           | _=>rfl
       | _=>rfl
def zxk (sz bytes:Nat) (z:List V) (k:Nat) (v:V) (m:Int):Option (V×List (Nat×O)):=match v with
 | .t .nils=>if 1<=m/\m<=2^32/\bytes<=2^12/\z.length=sz then some (V.ms k 0 m.toNat,[(k,O.rows sz (List.replicate m.toNat z) false)])else none
 | _=>none
@[go_sem]theorem zBV (sz bytes:Nat) (z:List V) (k:Nat) (m:Int):zxk sz bytes z k (.t .nils) m=if 1<=m/\m<=2^32/\bytes<=2^12/\z.length=sz then some (V.ms k 0 m.toNat,[(k,O.rows sz (List.replicate m.toNat z) false)])else none:=rfl
@[go_sem ↓]theorem zCp (t:Nat) (sz bytes:Nat) (z:List V) (x y:Opd) (w:W4 _ _ _ _):
 wO Γ G d p (⟨none,some t,.appz sz bytes z x y⟩::l) Q ⟨sl,u,h,n,b⟩ w=ziX (u t) (ob (zaW G sl y) (fun v'=>ob (zji v') (fun m=>ob (zaW G sl x) (fun v=>zxk sz bytes z (b+p) v m) ⟨0⟩) ⟨0⟩) ⟨0⟩) (fun v hp=>wO Γ G d (p+1) l Q ⟨updC sl t ⟨v,none,none⟩,u,At h hp,n,b⟩ ⟨0⟩) ⟨0⟩:=by
 refine zma rfl ?_;simp only[zaj,zds,za2,ob]
 cases zaW G sl y with
 | none=>rfl
 | some v'=>
   simp only[zC,zD]
   cases zji v' with
   | none=>rfl
   | some m=>
     simp only[zD]
     cases zaW G sl x with
     | none=>rfl
     | some v=>cases v with
       | t x=>cases x<;>first | rfl | (simp only[zD,zxk];split<;>rfl)
       | _=>rfl
@[go_sem ↓]theorem zxF (t:Nat) (sz bytes:Nat) (z:List V) (x y:Opd) (w:W4 _ _ _ _):
 wO Γ G d p (⟨none,some t,.mkslice sz bytes z x y⟩::l) Q ⟨sl,u,h,n,b⟩ w=ziX (u t) (ob (zaW G sl x) (fun v=>ob (zji v) (fun k=>ob (zaW G sl y) (fun v'=>ob (zji v') (fun m=>if 0<=k/\k<=m/\m<=2^32/\bytes<=2^12/\z.length=sz then some (V.ms (b+p) 0 k.toNat,[(b+p,O.rows sz (List.replicate k.toNat z) false)])else none) ⟨0⟩) ⟨0⟩) ⟨0⟩) ⟨0⟩) (fun v hp=>wO Γ G d (p+1) l Q ⟨updC sl t ⟨v,none,none⟩,u,At h hp,n,b⟩ ⟨0⟩) ⟨0⟩:=by
 refine zma rfl ?_;simp only[zaj,zds,ob]
 cases zaW G sl x with
 | none=>rfl
 | some v=>
   simp only[zC,zD]
   cases zji v with
   | none=>rfl
   | some k=>
     simp only[zD]
     cases zaW G sl y with
     | none=>rfl
     | some v'=>
       simp only[zD]
       cases zji v' with
       | none=>rfl
       | some m=>simp only[zD];split<;>rfl
@[go_sem ↓]theorem zzs (t:Nat) (sz bytes:Nat) (x y:Opd) (w:W4 _ _ _ _):
 wO Γ G d p (⟨none,some t,.append sz bytes x y⟩::l) Q ⟨sl,u,h,n,b⟩ w=ziX (u t) (ob (zaW G sl x) (fun v=>ob (zaW G sl y) (fun v'=>ob (rowsS h v) (fun a=>ob (rowsS h v') (fun c=>zck h (b+p) sz bytes v a c) ⟨0⟩) ⟨0⟩) ⟨0⟩) ⟨0⟩) (fun v hp=>wO Γ G d (p+1) l Q ⟨updC sl t ⟨v,none,none⟩,u,At h hp,n,b⟩ ⟨0⟩) ⟨0⟩:=by
 refine zma rfl ?_;simp only[zaj,za2,ob,ziP]
 cases zaW G sl x with
 | none=>rfl
 | some v=>
   simp only[zC,zD]
   cases zaW G sl y with
   | none=>rfl
   | some v'=>
     simp only[zD]
     cases rowsS h v with
     | none=>rfl
     | some a=>
       simp only[zD]
       cases rowsS h v' with
       | none=>rfl
       | some c=>
         simp only[zD,zck];split
         ·split
          ·rfl
          ·cases v with
           | t z=>cases z<;>first | rfl | (cases List.mapM zeF (a++c)<;>rfl)
           | ms k i j=>
             simp only[M.st]
             cases h k with
             | none=>rfl
             | some o=>cases o with
               | rows s rs z=>cases z with
                 | false=>simp only;split<;>rfl
                 | true=>rfl
               | _=>rfl
           | _=>rfl
         ·rfl
def zyz (h:Nat->Option O) (f:Nat):V->Option (V×List (Nat×O))
 | .mp k i off=>match h k with
   | some (.rows sz [row] _)=>if i=0/\off=0 then(zeF row).bind fun ts=>some (.t (.fn f [] [.ip ts]),[(k,.rows sz [row] true)])else none
   | _=>none
 | _=>none
attribute [go_sem] zyz
def zqW (d us:Bool) (h:Nat->Option O) (g:Nat) (vs:List V) (o:Option (List V)) (K:V->(Nat->Option O)->Prop) (_:WK K):Prop:=match o with
 | none=>False
 | some rs=>match Den Γ G g rs with
   | none=>False
   | some r=>us=false/\if r.scalar then K r h else(d=true->vs.flatMap (zba h)=[])/\K r (At h (freezes h (vs.flatMap (zba h))))
def zlN (o:Option V) (d:Bool) (h:Nat->Option O) (vs:List V) (K:V->(Nat->Option O)->Prop) (_:WK K):Prop:=match o with
 | none=>False
 | some r=>if r.scalar then K r h else(d=true->vs.flatMap (zba h)=[])/\K r (At h (freezes h (vs.flatMap (zba h))))
@[go_sem]theorem zyX (d:Bool) (h:Nat->Option O) (g:Nat) (vs rs:List V) (K:V->(Nat->Option O)->Prop) (w:WK K):
 zqW (Γ:=Γ) (G:=G) d false h g vs (some rs) K w=zlN (Den Γ G g rs) d h vs K ⟨0⟩:=by
 simp only[zqW,zlN]
 cases Den Γ G g rs with
 | none=>rfl
 | some r=>simp
@[go_sem]theorem zAP (k:IntKind) (n:Int) (d:Bool) (h:Nat->Option O) (vs:List V) (K:V->(Nat->Option O)->Prop) (w:WK K):zlN (some (.t (.int k n))) d h vs K w=K (.t (.int k n)) h:=by
 simp[zlN,V.scalar,V.scalar2,V.scalar1,T.scalar]
@[go_sem]theorem zyW (x:Bool) (d:Bool) (h:Nat->Option O) (vs:List V) (K:V->(Nat->Option O)->Prop) (w:WK K):zlN (some (.t (.bool x))) d h vs K w=K (.t (.bool x)) h:=by
 simp[zlN,V.scalar,V.scalar2,V.scalar1,T.scalar]
@[go_sem]theorem zs4 (r:V) (d:Bool) (h:Nat->Option O) (vs:List V) (K:V->(Nat->Option O)->Prop) (w:WK K) (ht:vs.all V.tree=true):
 zlN (some r) d h vs K w=K r h:=by
 have hr:vs.flatMap (zba h)=[]:=by
  simp only[List.flatMap_eq_nil_iff];intro v hv;exact zkt (zN.1 ht v hv)
 simp[zlN,hr,freezes,zaA]
@[go_sem]theorem zAO (r:V) (d:Bool) (h:Nat->Option O) (K:V->(Nat->Option O)->Prop) (w:WK K):zlN (some r) d h [] K w=K r h:=zs4 r d h [] K w rfl
def zhE (K:List V->Prop) (_:WK K) (o:Option (List V)):Prop:=match o with
 | none=>False
 | some vs=>K vs
@[go_sem]theorem zxy (vs:List V) (K:List V->Prop) (w:WK K):zhE K w (some vs)=K vs:=rfl
theorem zrX {d:Bool} {t:Nat} {l:List ROp} {p:Nat} {Q:M->Prop} {sl:Nat->Slot} {u:Nat->Bool} {h:Nat->Option O} {n b g:Nat} {vs:List V}:
 zvr Γ G d ⟨sl,u,h,n,b⟩ (some t) g vs (fun m'=>wpO Γ G d (p+1) l m' Q)=
  zqW (Γ:=Γ) (G:=G) d (u t) h g vs (vs.mapM (toT1 h)) (fun r h'=>wO Γ G d (p+1) l Q ⟨updC sl t ⟨r,none,none⟩,u,h',n,b⟩ ⟨0⟩) ⟨0⟩:=by
 rw[zaL (α:=Slot)];rw[zwB];simp only[zqW,M.free,Bool.and_true,wO,zaX,zek]
 cases vs.mapM (toT1 h)with
 | none=>simp
 | some rs=>
   simp only
   cases Den Γ G g rs with
   | none=>simp
   | some r=>
     simp only[zzH,M.apply,zcy,zbf,Bool.not_eq_true']
@[go_sem ↓]theorem zCl (t g:Nat) (args:List Opd) (w:W4 _ _ _ _):
 wO Γ G d p (⟨none,some t,.call false (.c (.t (.fn g [] []))) args⟩::l) Q ⟨sl,u,h,n,b⟩ w=
  zhE (fun vs=>zqW (Γ:=Γ) (G:=G) d (u t) h g vs (vs.mapM (toT1 h)) (fun r h'=>wO Γ G d (p+1) l Q ⟨updC sl t ⟨r,none,none⟩,u,h',n,b⟩ ⟨0⟩) ⟨0⟩) ⟨0⟩ (zdE G sl args):=by
 unfold wO;rw[zaX];rw[zbs];simp only[ziE,evl,zD,zfC,List.map_nil,zgD]
 cases zdE G sl args with
 | none=>rfl
 | some vs=>
   simp only[zhE,List.nil_append,List.append_nil,zG,if_false];have e:=zrX (Γ:=Γ) (G:=G) (d:=d) (t:=t) (l:=l) (p:=p) (Q:=Q) (sl:=sl) (u:=u) (h:=h) (n:=n) (b:=b) (g:=g) (vs:=vs);unfold wO at e;rw[zaX]at e;exact e
def fnK (o:Option V) (K:Nat->List V->List V->Prop) (_:WK K):Prop:=match o with
 | none=>False
 | some v=>match zfC v with
   | none=>False
   | some (g,a,c)=>K g a c
@[go_sem]theorem zDd (g:Nat) (a c:List T) (K:Nat->List V->List V->Prop) (w:WK K):fnK (some (.t (.fn g a c))) K w=K g (a.map V.t) (c.map V.t):=rfl
@[go_sem]theorem zDc (g:Nat) (a c:List V) (K:Nat->List V->List V->Prop) (w:WK K):fnK (some (.fn g a c)) K w=K g a c:=rfl
@[go_sem ↓]theorem zA9 (t x:Nat) (args:List Opd) (w:W4 _ _ _ _):
 wO Γ G d p (⟨none,some t,.call false (.s x) args⟩::l) Q ⟨sl,u,h,n,b⟩ w=
  fnK (zaW G sl (.s x)) (fun g a c=>zhE (fun vs=>zqW (Γ:=Γ) (G:=G) d (u t) h g (a++vs++c) ((a++vs++c).mapM (toT1 h)) (fun r h'=>wO Γ G d (p+1) l Q ⟨updC sl t ⟨r,none,none⟩,u,h',n,b⟩ ⟨0⟩) ⟨0⟩) ⟨0⟩ (zdE G sl args)) ⟨0⟩:=by
 unfold wO;rw[zaX];rw[zbs];simp only[ziE,za2,zgD]
 cases zaW G sl (.s x)with
 | none=>cases zdE G sl args<;>rfl
 | some v=>
   simp only[zD,fnK]
   cases zfC v with
   | none=>
     simp only
     cases zdE G sl args with
     | none=>rfl
     | some vs=>
       simp only[zG,false_and]
       split<;>rfl
   | some q=>
     obtain⟨g,a,c⟩:=q;simp only
     cases zdE G sl args with
     | none=>rfl
     | some vs=>
       simp only[zhE,zG,if_false];have e:=zrX (Γ:=Γ) (G:=G) (d:=d) (t:=t) (l:=l) (p:=p) (Q:=Q) (sl:=sl) (u:=u) (h:=h) (n:=n) (b:=b) (g:=g) (vs:=a++vs++c);unfold wO at e;rw[zaX]at e;exact e
def zvK (us:Bool) (o:Option (V×(Nat->Option O)×Nat)) (K:V->(Nat->Option O)->Nat->Prop) (_:WK K):Prop:=match o with
 | none=>False
 | some (r,h,n)=>us=false/\K r h n
theorem zpM {d:Bool} {t:Nat} {l:List ROp} {p:Nat} {Q:M->Prop} {sl:Nat->Slot} {u:Nat->Bool} {h:Nat->Option O} {n b g:Nat} {vs:List V}:
 zvq Γ G ⟨sl,u,h,n,b⟩ (some t) g vs (fun m'=>wpO Γ G d (p+1) l m' Q)=
  zvK (u t) (DenR Γ G g vs h n) (fun r h' n'=>wO Γ G d (p+1) l Q ⟨updC sl t ⟨r,none,none⟩,u,h',n',b⟩ ⟨0⟩) ⟨0⟩:=by
 (try rw[zaL (α:=Slot)])
 rw[zwA];simp only[zvK,M.free,Bool.and_true,wO,zaX]
 cases DenR Γ G g vs h n with
 | none=>simp
 | some q=>
   obtain⟨r,h',n'⟩:=q;simp only[M.apply,zcy,zbf,Bool.not_eq_true']
@[go_sem ↓]theorem zAY (t g:Nat) (args:List Opd) (w:W4 _ _ _ _):
 wO Γ G d p (⟨none,some t,.call true (.c (.t (.fn g [] []))) args⟩::l) Q ⟨sl,u,h,n,b⟩ w=
  zhE (fun vs=>zvK (u t) (DenR Γ G g vs h n) (fun r h' n'=>wO Γ G d (p+1) l Q ⟨updC sl t ⟨r,none,none⟩,u,h',n',b⟩ ⟨0⟩) ⟨0⟩) ⟨0⟩ (zdE G sl args):=by
 unfold wO;rw[zaX];rw[zbs];simp only[ziE,evl,zD,zfC,List.map_nil,zgD]
 cases zdE G sl args with
 | none=>rfl
 | some vs=>
   simp only[zhE,List.nil_append,List.append_nil,if_true];have e:=zpM (Γ:=Γ) (G:=G) (d:=d) (t:=t) (l:=l) (p:=p) (Q:=Q) (sl:=sl) (u:=u) (h:=h) (n:=n) (b:=b) (g:=g) (vs:=vs);unfold wO at e;rw[zaX]at e;exact e
def fnY (o:Option V) (K:Nat->List V->List V->Prop) (Y:Nat->Prop) (_:WK K) (_:WK Y):Prop:=match o with
 | none=>False
 | some v=>match zfC v with
   | some (g,a,c)=>K g a c
   | none=>match ztL v with
     | some k=>Y k
     | none=>False
@[go_sem]theorem zDb (g:Nat) (a c:List V) (K:Nat->List V->List V->Prop) (Y:Nat->Prop) (w:WK K) (w':WK Y):fnY (some (.fn g a c)) K Y w w'=K g a c:=rfl
@[go_sem]theorem zDa (k:Nat) (K:Nat->List V->List V->Prop) (Y:Nat->Prop) (w:WK K) (w':WK Y):fnY (some (.yl k)) K Y w w'=Y k:=rfl
theorem zKR {v:V} {g:Nat} {a c:List V} (h:zfC v=some (g,a,c)) (K:Nat->List V->List V->Prop) (Y:Nat->Prop) (w:WK K) (w':WK Y):fnY (some v) K Y w w'=K g a c:=by
 simp only[fnY,h]
theorem zvo {d:Bool} {t:Nat} {l:List ROp} {p:Nat} {Q:M->Prop} {sl:Nat->Slot} {u:Nat->Bool} {h:Nat->Option O} {n b k:Nat} {vs:List V}:
 zvp Γ G ⟨sl,u,h,n,b⟩ (some t) k vs (fun m'=>wpO Γ G d (p+1) l m' Q)=
  zvK (u t) (DenY Γ G k vs h n) (fun r h' n'=>wO Γ G d (p+1) l Q ⟨updC sl t ⟨r,none,none⟩,u,h',n',b⟩ ⟨0⟩) ⟨0⟩:=by
 (try rw[zaL (α:=Slot)])
 rw[zwz];simp only[zvK,M.free,Bool.and_true,wO,zaX]
 cases DenY Γ G k vs h n with
 | none=>simp
 | some q=>
   obtain⟨r,h',n'⟩:=q;simp only[M.apply,zcy,zbf,Bool.not_eq_true']
def zyL (us:Bool) (h:Nat->Option O) (key g:Nat) (vs:List V) (K:V->List (Nat×O)->Prop) (_:WK K):Prop:=
 us=false/\vs.flatMap (zba h)=[]/\ ∃rs,vs.mapM (toT1 h)=some rs/\ ∃r h' n',DenR Γ G g rs (fun _=>none) 0=some (r,h',n')/\ ∃e,zqm key r h'=some e/\K e.val e.hp
@[go_sem ↓]theorem zA7 (t g:Nat) (args:List Opd) (w:W4 _ _ _ _):
 wO Γ G d p (⟨none,some t,.fcall (.c (.t (.fn g [] []))) args⟩::l) Q ⟨sl,u,h,n,b⟩ w=
  zhE (fun vs=>zyL (Γ:=Γ) (G:=G) (u t) h (b+p) g vs (fun v hp=>wO Γ G d (p+1) l Q ⟨updC sl t ⟨v,none,none⟩,u,At h hp,n,b⟩ ⟨0⟩) ⟨0⟩) ⟨0⟩ (zdE G sl args):=by
 unfold wO;rw[zaX];rw[zbs];simp only[ziE,evl,zD,zfC,List.map_nil,zgD]
 cases zdE G sl args with
 | none=>rfl
 | some vs=>
   simp only[zhE,List.nil_append,List.append_nil,zyY,zyL,M.free,Bool.and_true,Bool.not_eq_true'];apply propext;constructor
   ·rintro⟨h1,h2,rs,h3,r,h',n',h4,_,e,h5,h6⟩;refine⟨h1,h2,rs,h3,r,h',n',zcI.2 h4,e,h5,?_⟩;obtain⟨s1,s2,s3⟩:=zeP h5;rw[zaL,zek];simpa[M.apply,zcy,s1,s2,s3]using h6
   ·rintro⟨h1,h2,rs,h3,r,h',n',h4,e,h5,h6⟩;refine⟨h1,h2,rs,h3,r,h',n',zcI.1 h4,zxp (zcI.1 h4),e,h5,?_⟩;obtain⟨s1,s2,s3⟩:=zeP h5;rw[zaL,zek]at h6;simpa[M.apply,zcy,s1,s2,s3]using h6
@[go_sem ↓]theorem zzi (t x:Nat) (args:List Opd) (w:W4 _ _ _ _):
 wO Γ G d p (⟨none,some t,.call true (.s x) args⟩::l) Q ⟨sl,u,h,n,b⟩ w=
  fnY (zaW G sl (.s x)) (fun g a c=>zhE (fun vs=>zvK (u t) (DenR Γ G g (a++vs++c) h n) (fun r h' n'=>wO Γ G d (p+1) l Q ⟨updC sl t ⟨r,none,none⟩,u,h',n',b⟩ ⟨0⟩) ⟨0⟩) ⟨0⟩ (zdE G sl args))
   (fun k=>zhE (fun vs=>zvK (u t) (DenY Γ G k vs h n) (fun r h' n'=>wO Γ G d (p+1) l Q ⟨updC sl t ⟨r,none,none⟩,u,h',n',b⟩ ⟨0⟩) ⟨0⟩) ⟨0⟩ (zdE G sl args)) ⟨0⟩ ⟨0⟩:=by
 unfold wO;rw[zaX];rw[zbs];simp only[ziE,za2,zgD]
 cases zaW G sl (.s x)with
 | none=>cases zdE G sl args<;>rfl
 | some v=>
   simp only[zD,fnY]
   cases zfC v with
   | none=>
     simp only
     cases ztL v with
     | none=>cases zdE G sl args<;>rfl
     | some k=>
       simp only
       cases zdE G sl args with
       | none=>rfl
       | some vs=>
         simp only[zhE,true_and];have e:=zvo (Γ:=Γ) (G:=G) (d:=d) (t:=t) (l:=l) (p:=p) (Q:=Q) (sl:=sl) (u:=u) (h:=h) (n:=n) (b:=b) (k:=k) (vs:=vs);unfold wO at e;rw[zaX]at e
         exact e
   | some q=>
     obtain⟨g,a,c⟩:=q;simp only
     cases zdE G sl args with
     | none=>rfl
     | some vs=>
       simp only[zhE,if_true];have e:=zpM (Γ:=Γ) (G:=G) (d:=d) (t:=t) (l:=l) (p:=p) (Q:=Q) (sl:=sl) (u:=u) (h:=h) (n:=n) (b:=b) (g:=g) (vs:=a++vs++c);unfold wO at e;rw[zaX]at e;exact e
def resVal:V->Option V
 | .undef=>none
 | .lb=>none
 | .tup _=>none
 | v=>some v
attribute [go_sem] resVal
def zuB (h:Nat->Option O) (ag:Bool) (n:Nat):V->Option V
 | .mp k i off=>match h k with
   | some (.rows _ rs _)=>(rs[i]?).bind fun row=>(rd row off n).bind (zb9 ag)
   | _=>none
 | _=>none
attribute [go_sem] zuB
theorem zBn (sl:Nat->Slot) (u:Nat->Bool) (h:Nat->Option O) (n b t:Nat):zer (M.st ⟨sl,u,h,n,b⟩) (.s t)=resVal (sl t).v:=by
 simp only[zer,M.st];cases(sl t).v<;>rfl
theorem zBo (sl:Nat->Slot) (u:Nat->Bool) (h:Nat->Option O) (n b t:Nat) (ag:Bool) (k:Nat):zer (M.st ⟨sl,u,h,n,b⟩) (.l t ag k)=ob (sl t).box (fun cs=>ob (rd cs 0 k) (zb9 ag) ⟨0⟩) ⟨0⟩:=rfl
theorem zBp (sl:Nat->Slot) (u:Nat->Bool) (h:Nat->Option O) (n b t:Nat) (ag:Bool) (k:Nat):zer (M.st ⟨sl,u,h,n,b⟩) (.h t ag k)=zuB h ag k (sl t).v:=by
 simp only[zer,M.st,zuB]
 cases(sl t).v with
 | mp q i off=>simp only;cases h q with
   | none=>rfl
   | some o=>cases o with
     | rows sz rs z=>rfl
     | _=>rfl
 | _=>rfl
def zyu:List V->V
 | [v]=>v
 | vs=> .tup vs
attribute [go_sem] zyu
theorem zrN (sl:Nat->Slot) (u u':Nat->Bool) (h:Nat->Option O) (n b n' b':Nat) (r:Res):zer (M.st ⟨sl,u,h,n,b⟩) r=zer (M.st ⟨sl,u',h,n',b'⟩) r:=by
 cases r<;>rfl
structure W5 (sl:Nat->Slot) (h:Nat->Option O) (rs:List Res) (acc:List V) (K:V->Prop)where
 n:Nat
def znt (sl:Nat->Slot) (h:Nat->Option O) (rs:List Res) (acc:List V) (K:V->Prop) (_:W5 sl h rs acc K):Prop:=
 match rs.mapM (zer (M.st ⟨sl,fun _=>false,h,0,0⟩))with
 | none=>False
 | some vs=>K (zyu (acc++vs))
@[go_sem ↓]theorem zzF (sl:Nat->Slot) (h:Nat->Option O) (acc:List V) (K:V->Prop) (w:W5 sl h [] acc K):znt sl h [] acc K w=K (zyu acc):=by simp[znt]
theorem ziR (sl:Nat->Slot) (h:Nat->Option O) (r:Res) (rs:List Res) (acc:List V) (K:V->Prop) (w:W5 sl h (r::rs) acc K):
 znt sl h (r::rs) acc K w=zdr false (zer (M.st ⟨sl,fun _=>false,h,0,0⟩) r) (fun v=>znt sl h rs (acc++[v]) K ⟨0⟩) ⟨0⟩:=by
 simp only[znt,List.mapM_cons,zC]
 cases zer (M.st ⟨sl,fun _=>false,h,0,0⟩) r with
 | none=>rfl
 | some v=>
   simp only[zD,zdr,true_and]
   cases rs.mapM (zer (M.st ⟨sl,fun _=>false,h,0,0⟩))with
   | none=>rfl
   | some vs=>simp
@[go_sem ↓]theorem zCv (sl:Nat->Slot) (h:Nat->Option O) (t:Nat) (rs:List Res) (acc:List V) (K:V->Prop) (w:W5 sl h (.s t::rs) acc K):
 znt sl h (.s t::rs) acc K w=zdr false (resVal (sl t).v) (fun v=>znt sl h rs (acc++[v]) K ⟨0⟩) ⟨0⟩:=by rw[ziR,zBn]
@[go_sem ↓]theorem zCw (sl:Nat->Slot) (h:Nat->Option O) (t:Nat) (ag:Bool) (k:Nat) (rs:List Res) (acc:List V) (K:V->Prop) (w:W5 sl h (.l t ag k::rs) acc K):
 znt sl h (.l t ag k::rs) acc K w=zdr false (ob (sl t).box (fun cs=>ob (rd cs 0 k) (zb9 ag) ⟨0⟩) ⟨0⟩) (fun v=>znt sl h rs (acc++[v]) K ⟨0⟩) ⟨0⟩:=by rw[ziR,zBo]
@[go_sem ↓]theorem zCx (sl:Nat->Slot) (h:Nat->Option O) (t:Nat) (ag:Bool) (k:Nat) (rs:List Res) (acc:List V) (K:V->Prop) (w:W5 sl h (.h t ag k::rs) acc K):
 znt sl h (.h t ag k::rs) acc K w=zdr false (zuB h ag k (sl t).v) (fun v=>znt sl h rs (acc++[v]) K ⟨0⟩) ⟨0⟩:=by rw[ziR,zBp]
theorem ziS (sl:Nat->Slot) (u:Nat->Bool) (h:Nat->Option O) (n b:Nat) (rs:List Res) (K:V->Prop):
 (∃v,zeM (M.st ⟨sl,u,h,n,b⟩) rs=some v/\K v)=znt sl h rs [] K ⟨0⟩:=by
 have:zer (M.st ⟨sl,u,h,n,b⟩)=zer (M.st ⟨sl,fun _=>false,h,0,0⟩):=funext fun r=>zrN sl u _ h n b 0 0 r
 simp only[zeM,this,znt,List.nil_append,zC]
 cases rs.mapM (zer (M.st ⟨sl,fun _=>false,h,0,0⟩))with
 | none=>simp
 | some vs=>
   simp only[zD]
   cases vs with
   | nil=>simp[zyu]
   | cons v vs=>cases vs<;>simp[zyu]
def Fi (rs:List Res) (r:V) (e:Ex) (m:M):Prop:=Fin rs r e m
@[go_sem ↓]theorem zCe (rs:List Res) (r:V) (sl:Nat->Slot) (u:Nat->Bool) (h:Nat->Option O) (n b:Nat):Fi rs r .ret ⟨sl,u,h,n,b⟩=znt sl h rs [] (fun v=>reify h v=some r) ⟨0⟩:=by
 rw[Fi,zyk,ziS]
def FiR (rs:List Res) (P:V->(Nat->Option O)->Nat->Prop) (e:Ex) (m:M):Prop:=zxA rs P e m
@[go_sem ↓]theorem zA4 (rs:List Res) (P:V->(Nat->Option O)->Nat->Prop) (sl:Nat->Slot) (u:Nat->Bool) (h:Nat->Option O) (n b:Nat):FiR rs P .ret ⟨sl,u,h,n,b⟩=znt sl h rs [] (fun v=>SpN (P v h n) ⟨0⟩) ⟨0⟩:=by
 rw[FiR,zwx,<- ziS sl u h n b];rfl
@[go_sem ↓]theorem zA5 (rs:List Res) (P:V->(Nat->Option O)->Nat->Prop) (sl:Nat->Slot) (u:Nat->Bool) (h:Nat->Option O) (n b:Nat):FiR rs P .normal ⟨sl,u,h,n,b⟩=znt sl h rs [] (fun v=>SpN (P v h n) ⟨0⟩) ⟨0⟩:=by
 rw[FiR,zwy,<- ziS sl u h n b];rfl
theorem zag {g:Nat} {args:List V} {fn:F} {r:V} (hg:Γ g=some fn) (hr:fn.raw=false)
 (h:wC Γ G fn.body (qOf Γ G [] (Fi fn.results r)) ⟨slotsC args 0,fun _=>false,fun _=>none,0,0⟩ ⟨0⟩):Den Γ G g args=some r:=zyV hg hr (by unfold wC at h;rw[zbS,zcz,ziG]at h;exact h)
theorem zay {g:Nat} {args:List V} {fn:F} {hp:Nat->Option O} {n:Nat} {P:V->(Nat->Option O)->Nat->Prop} (hg:Γ g=some fn) (hr:fn.raw=true)
 (h:wC Γ G fn.body (qOf Γ G [] (FiR fn.results P)) ⟨slotsC args 0,fun _=>false,hp,n,n⟩ ⟨0⟩): ∃r h' n',DenR Γ G g args hp n=some (r,h',n')/\P r h' n':=zw9 hg hr (by unfold wC at h;rw[zbS,zcz,ziG]at h;exact h)
theorem zaT {b:C} {sl:Nat->Slot} {us:Nat->Bool} {nx ba:Nat} {Q:Ex->M->Prop} {w:W3 b Q ⟨sl,us,fun _=>none,nx,ba⟩} (k:Nat) (n:Nat) (Inv:Nat->(Nat->Slot)->Prop) (hW:b.wrIn (zjJ k)=true) (hH:b.noH=true)
 (h0:Inv 0 sl)
 (h: ∀i f u x bs,i<=n->Inv i f->wC Γ G b (qOf Γ G [] (zf8 (fun m'=>SpN (i<n/\Inv (i+1) m'.sl) ⟨0⟩) Q)) ⟨ovrM k f sl,u,fun _=>none,x,bs⟩ ⟨0⟩):wL Γ G b Q ⟨sl,us,fun _=>none,nx,ba⟩ w:=
 by
  unfold wL;rw[zfi];exact zBA _ n Inv hW hH h0 (by unfold ovrM wC at h;rw[zlr,zbS,zcz]at h;exact h)
theorem zaq {b:C} {sl:Nat->Slot} {us:Nat->Bool} {hp:Nat->Option O} {nx ba:Nat} {Q:Ex->M->Prop} {w:W3 b Q ⟨sl,us,hp,nx,ba⟩} (k:Nat) (n:Nat) (Inv:Nat->(Nat->Slot)->(Nat->Option O)->Nat->Prop) (hW:b.wrIn (zjJ k)=true)
 (h0:Inv 0 sl hp nx)
 (h: ∀i f u h x bs,i<=n->Inv i f h x->wC Γ G b (qOf Γ G [] (zf8 (fun m'=>SpN (i<n/\Inv (i+1) m'.sl m'.heap m'.nxt) ⟨0⟩) Q)) ⟨ovrM k f sl,u,h,x,bs⟩ ⟨0⟩):wL Γ G b Q ⟨sl,us,hp,nx,ba⟩ w:=
 by
  unfold wL;rw[zfi];exact zyB _ n Inv hW h0 (by unfold ovrM wC at h;rw[zlr,zbS,zcz]at h;exact h)
@[go_sem ↓]theorem zB5 (sl:Nat->Slot) (u:Nat->Bool) (h:Nat->Option O) (n b:Nat):(M.mk sl u h n b).sl=sl:=rfl
end
end Rg
namespace Rg
open Go
theorem zaD {Γ:Nat->Option F} {G:Nat->List T} {b:C} {Q:Ex->M->Prop} {m:M} {w:W3 b Q m} (h:wC Γ G b (qOf Γ G [] (zf8 (fun m'=>wL Γ G b Q m' ⟨0⟩) Q)) m ⟨0⟩):wL Γ G b Q m w:=
 by
  unfold wC at h;rw[zbS,zcz]at h;unfold wL at h⊢;rw[zfi]at h⊢;exact ztt (zq7 h)
end Rg
namespace Rg
open Go
theorem zas {o:Option (V×(Nat->Option O)×Nat)} {P:V->(Nat->Option O)->Nat->Prop} {K:V->(Nat->Option O)->Nat->Prop} {w:WK K}
 (h: ∃r h' n',o=some (r,h',n')/\P r h' n') (hk: ∀r h' n',P r h' n'->K r h' n'):zvK false o K w:=by
 obtain⟨r,h',n',rfl,hp⟩:=h;exact⟨rfl,hk r h' n' hp⟩
attribute [go_sem] List.isEmpty_cons List.isEmpty_nil List.set_cons_zero List.set_cons_succ Nat.lt_add_one Nat.zero_add Option.isSome_some ne_eq Int.cast_ofNat_Int decide_true decide_false not_false_eq_true not_true_eq_false and_self exists_eq_left' V.t.injEq T.bool.injEq T.int.injEq V.agg.injEq V.tup.injEq List.cons.injEq
theorem zah:(∀(p:Prop) [Decidable p],(decide p=true)=p)/\(∀(p:Prop) [Decidable p],(decide p=false)<-> ¬p)/\(∀(α:Type) [BEq α] [LawfulBEq α] (a b:α),(a==b)=true<->a=b)
 /\(∀(α:Type) [BEq α] [LawfulBEq α] (a b:α),(a != b)=true<->a≠b)/\(∀(α:Type) [BEq α] [LawfulBEq α] (x y:α),(x==y)=false<->x≠y)/\(∀(α:Type) [BEq α] [LawfulBEq α] (a b:α),(a != b)=false<->a=b)
 /\(∀b:Bool,((!b)=true)=(b=false))/\(∀b:Bool,((!b)=false)=(b=true))/\(∀b c:Bool,((!b)=c)=(b= !c))/\((!true)=false)/\((!false)=true)/\(∀(α:Type) (a b:α),(a≠b)= ¬a=b)/\(∀(p:Prop) [Decidable p],¬¬p<->p):=
 ⟨fun _ _=>decide_eq_true_eq,fun _ _=>decide_eq_false_iff_not,fun _ _ _ _ _=>beq_iff_eq,fun _ _ _ _ _=>bne_iff_ne,fun _ _ _ _ _=>beq_eq_false_iff_ne,fun _ _ _ _ _=>bne_eq_false_iff_eq,Bool.not_eq_true',Bool.not_eq_false',
  fun _ _=>by simp,rfl,rfl,fun _ _ _=>rfl,fun _ _=>Decidable.not_not⟩
end Rg
end
section
set_option maxRecDepth 100000
namespace Go.Proofs.YtoidcnbdndioaaaGreatDoor
open Go Rg Go.ChangeShapes Go.WideShapes Go.ChangeAt Go.WideMaps Go.WideElems Go.RowKit
theorem own:ownKnob Tryz.prog.godebug=none:=by kernel_rfl
theorem zwP:laidOutB Tryz.prog=true:=by kernel_rfl
def ty:Tys:=⟨3,4,9,5,32,0,43,31,52,22,135,136,138,33,141,34,36,25,45,23,47,24,27,0,0,0,0,0⟩
theorem zjU:ty.Ok0 Tryz.prog:=⟨by kernel_rfl,by kernel_rfl,by kernel_rfl,by kernel_rfl,by kernel_rfl,by kernel_rfl,by kernel_rfl,by kernel_rfl,by kernel_rfl,by kernel_rfl,by kernel_rfl,by kernel_rfl,by kernel_rfl,by kernel_rfl,by kernel_rfl,by kernel_rfl,by kernel_rfl,by kernel_rfl,by kernel_rfl,by kernel_rfl,by kernel_rfl,by kernel_rfl⟩
abbrev zsj:List (String×DataW Unit):=Rows.topSetsDecideRow.laid
theorem zw0 {W:World} (h:laidMetH Tryz.prog zsj W):zpW Seat.N (fun r=>r<W.heap.size) W:=by
 intro k j x hx
 match k,hx with
 | 0, hx => exact zpt (nm := "relyguard/expr.masks") (g := 0) (k := 0) (t := 195) (e := 3) (ls := [.int .i64 0, .int .i64 1, .int .i64 3, .int .i64 7, .int .i64 15, .int .i64 31, .int .i64 63, .int .i64 127, .int .i64 255]) (by kernel_rfl) h (zL (i := 1) rfl) (by kernel_rfl) (by kernel_rfl) (by kernel_rfl) (.inr ⟨.i64, by kernel_rfl⟩) (by kernel_rfl) (by kernel_rfl) rfl rfl j x hx
 | 1,hx=>exact(by have h0:([]:List T)[j]? =some x:=hx;rw[List.getElem?_nil]at h0;cases h0)
 | 2,hx=>exact(by have h0:([]:List T)[j]? =some x:=hx;rw[List.getElem?_nil]at h0;cases h0)
 | 3, hx => exact zpt (nm := "math/bits.deBruijn64tab") (g := 1) (k := 3) (t := 199) (e := 5) (ls := [.int .u8 0, .int .u8 1, .int .u8 56, .int .u8 2, .int .u8 57, .int .u8 49, .int .u8 28, .int .u8 3, .int .u8 61, .int .u8 58, .int .u8 42, .int .u8 50, .int .u8 38, .int .u8 29, .int .u8 17, .int .u8 4, .int .u8 62, .int .u8 47, .int .u8 59, .int .u8 36, .int .u8 45, .int .u8 43, .int .u8 51, .int .u8 22, .int .u8 53, .int .u8 39, .int .u8 33, .int .u8 30, .int .u8 24, .int .u8 18, .int .u8 12, .int .u8 5, .int .u8 63, .int .u8 55, .int .u8 48, .int .u8 27, .int .u8 60, .int .u8 41, .int .u8 37, .int .u8 16, .int .u8 46, .int .u8 35, .int .u8 44, .int .u8 21, .int .u8 52, .int .u8 32, .int .u8 23, .int .u8 11, .int .u8 54, .int .u8 26, .int .u8 40, .int .u8 15, .int .u8 34, .int .u8 20, .int .u8 31, .int .u8 10, .int .u8 25, .int .u8 14, .int .u8 19, .int .u8 9, .int .u8 13, .int .u8 8, .int .u8 7, .int .u8 6]) (by kernel_rfl) h (zL (i := 0) rfl) (by kernel_rfl) (by kernel_rfl) (by kernel_rfl) (.inr ⟨.u8, by kernel_rfl⟩) (by kernel_rfl) (by kernel_rfl) rfl rfl j x hx
 | k+4,hx=>exact(by have h0:([]:List T)[j]? =some x:=hx;rw[List.getElem?_nil]at h0;cases h0)
theorem zKn {tbl:List Nat} {gi:Nat->Option Nat} {gm:Nat->Nat} {G:Nat->List T} {cr:Code->Nat->C->Prop} {tB tU:Nat} (hg: ∀q k,gi q=some k->gm k=q/\G k≠[]):
 Inv.Ok ⟨fun f=>tbl.findIdx? (· ==f),gi,Option.none,[]⟩ ⟨fun k=>tbl.getD k 0,gm,G,G,cr,tB,tU⟩:=by
 refine⟨fun f k h=> ?_,fun q k h=>⟨(hg q k h).1,(hg q k h).2,rfl⟩,(fun t h=>by cases h),fun k t h=>by cases h⟩;obtain⟨Ad,he,_⟩:=List.findIdx?_eq_some_iff_getElem.1 h;show tbl.getD k 0=f;rw[zK,zI Ad];simpa using he
theorem inv:Seat.I.Ok Seat.N:=zKn (fun q k h=>by
 split at h
 ·cases h;rename_i hq;exact⟨hq.symm,by intro h;cases h⟩
 ·split at h
  ·cases h;rename_i hq;exact⟨hq.symm,by intro h;cases h⟩
  ·cases h)
theorem zBf:ztu Tryz.prog Seat.I Seat.N Rg.Γ:=fun g fn h=>Seat.all (g,fn) (zkG h)
theorem zwD {g:Nat} {av:List V} {r:V} (h:Den Rg.Γ Rg.G g av=some r):zjO Tryz.prog Seat.N g av r:=
 zte inv zBf (by kernel_rfl) (fun _ _ _=>Iff.rfl) (zhC.1 h)
section
variable {H:Type} {enc:TypeId×Value->H} {P:Program} {W:World} {nm:Nat->Nat} {y:Tys}
theorem zJH (hy:y.Ok0 P) (n:Nat):Rd enc P W nm n y.cells (fun l:List Cell=>[.sl (l.map Cell.enc)]) (fun l=>l.length<2^48):=
 (zjX hy.cells n fun m _=>zwv hy m).conv fun l h=>⟨l,Nat.lt_of_le_of_lt h.1 (by decide),rfl⟩
end
theorem zu7 (os:Os) (args:Array Value):laidMetH Tryz.prog zsj ((World.doorLaid Tryz.prog 400 os).forCall (fun _ _=>0) ⟨#[],args,[]⟩).memory:=
 laidMetH_of_parts3 (fuel:=8) (laidMet_of_run' 8 (by kernel_rfl) (by kernel_rfl)) (by kernel_rfl) (by kernel_rfl)
end Go.Proofs.YtoidcnbdndioaaaGreatDoor
end
section
namespace Rg
open Go
def zcO (op:Int):Int:=
 if 1<=op/\op<=3 then 0 else if op=4 then 1 else if 5<=op/\op<=13 then 2 else if op=14 then 3 else -1
theorem zoT (e:Expr): ∀l:Int,l<2^40->Den Γ G 47 [(.agg [.t (ti (e).op),.t (ti (e).w),.t (ti (e).n),.t (.sl ((e).kids.map (Expr.enc)))]),vi l]=some (vi (if l<=0 then 0 else min (e.size:Int) l)):=by
 induction e using Expr.ind with
 | _ e ih=>
 intro l hl;have AS:=Expr.size_eq e;have Ac:=Expr.len_le_size e.kids
 (refine zag Γ47 rfl ?_;dsimp only[f47])
 simp -dsimp only[go_sem,seval];refine zac (fun h=> ?_) (fun h=> ?_)<;>(try simp only[zah]at h)<;>(try simp -dsimp only[go_sem,seval, *])
 refine zaT 4294966880 e.kids.length (fun i f=>(f 6).v=vi i/\(f 5).v=vi (min (1+((e.kids.take i).map Expr.size).sum:Nat) l)) rfl rfl ⟨by simp -dsimp only[go_sem,seval],by simp -dsimp only[go_sem,seval];simp;omega⟩ ?_;rintro i f u kk bb hi ⟨h6,h5⟩;have hp:=Expr.take_le_size e.kids i;have AK:=Expr.len_le_size (e.kids.take i);rw[List.length_take,Nat.min_eq_left hi]at AK;simp -dsimp only[go_sem,seval,h6,h5];refine zac (fun h=> ?_) (fun h=> ?_)<;>(try simp only[zah]at h)<;>(try simp -dsimp only[go_sem,seval,h6,h5, *])
 ·refine zac (fun h=> ?_) (fun h=> ?_)<;>(try simp only[zah]at h)<;>(try simp -dsimp only[go_sem,seval,h6,h5, *])
  ·have hw:=zan i (by omega);obtain⟨x,hx,hm⟩:=zai ‹i<e.kids.length›;have ht:=zaf hx;have Fj:min (((1+((e.kids.take i).map Expr.size).sum:Nat):Int)) l=((1+((e.kids.take i).map Expr.size).sum:Nat):Int):=by omega
   rw[Fj]at h5;have Cj:IntKind.i64.wrap (l-((1+((e.kids.take i).map Expr.size).sum:Nat):Int))=l-((1+((e.kids.take i).map Expr.size).sum:Nat):Int):=zaH (by omega);have hd:=ih x hm (l-((1+((e.kids.take i).map Expr.size).sum:Nat):Int)) (by omega);simp -dsimp only[go_sem,seval,h6,h5,hw,hx,Cj,hd];refine⟨by omega,by simp -dsimp only[go_sem,seval],?_⟩;simp -dsimp only[go_sem,seval];rw[if_neg (by omega),ht,zaH (by omega)];simp only[List.map_append,List.sum_append,List.map_cons,List.map_nil,List.sum_cons,List.sum_nil];omega
  ·omega
 ·have:i=e.kids.length:=by omega
  subst this;rw[List.take_length];omega
def zbk (e:Expr):Bool:=
 if zcO e.op≠e.kids.length\/e.w<1\/e.w>8 then false
 else if e.op=1 then decide (0<=e.n/\e.n<2^e.w.toNat)
 else if e.op=2\/e.op=3 then decide (0<=e.n/\e.n<32)
 else if e.op=4 then decide (e.n=0/\e.kw 0=e.w)
 else if e.op=11\/e.op=12\/e.op=13 then decide (e.n=0/\e.w=1/\e.kw 0=e.kw 1)
 else if e.op=14 then decide (e.n=0/\e.kw 0=1/\e.kw 1=e.w/\e.kw 2=e.w)
 else decide (e.n=0/\e.kw 0=e.w/\e.kw 1=e.w)
def Expr.deep:Nat->Expr->Bool
 | 0,_=>false
 | d+1,e=>zbk e&&e.kids.all (Expr.deep d)
theorem zdP {α:Type} {l:List α} {i:Nat} {x:α} {p:α->Bool} (h:l[i]? =some x) (h1:(l.take i).all p=true) (h2:p x=true):(l.take (i+1)).all p=true:=by
 rw[zaf h,List.all_append,h1];simp[h2]
theorem zcr {α:Type} {l:List α} {x:α} {p:α->Bool} (h:x∈l) (h2:p x=false):l.all p=false:=by
 rw[List.all_eq_false];exact⟨x,h,by simp[h2]⟩
theorem zvt (op:Int):zcO op<=3:=by unfold zcO;grind
theorem zdj {e:Expr} (h:zbk e=true):e.kids.length<=3:=by
 have:=zvt e.op;unfold zbk at h;split at h
 ·simp at h
 ·rename_i h';simp only[not_or,Decidable.not_not]at h';omega
end Rg
end
section
-- FULL
namespace Rg
open Go
theorem zeg (op:Int):op=1\/op=2\/op=3\/op=4\/op=5\/op=6\/op=7\/op=8\/op=9\/op=10\/op=11\/op=12\/op=13\/op=14\/(op<1\/14<op):=by omega
theorem zd7 {op:Int} (h:op<1\/14<op):zcO op= -1:=by unfold zcO;grind
set_option maxHeartbeats 2000000
end Rg
end
section
namespace Rg
open Go
def Expr.formed (e:Expr):Bool:=decide (e.size<=600)&&e.deep 40
theorem zdX (e:Expr) (l:Int) (hl:0<=l/\l<10000):Den Γ G 23 [(.agg [.t (ti (e).op),.t (ti (e).w),.t (ti (e).n),.t (.sl ((e).kids.map (Expr.enc)))]),vi l]=some (vb (decide ((e.size:Int)<=l))):=by
 (refine zag Γ23 rfl ?_;dsimp only[f23])
 have hw:IntKind.i64.wrap (l+1)=l+1:=zaH (by omega);have h1:=zoT e (l+1) (by omega);simp -dsimp only[go_sem,seval,h1,hw];rw[if_neg (by omega)];simp;omega
def zb3 (cells:List Cell) (pair:Bool) (e:Expr):Bool:=
 if e.op=3/\pair=false then false
 else if(e.op=3\/e.op=2)then(match cells[e.n.toNat]? with | some c=>decide (c.w=e.w) | none=>false)
 else true
theorem zfZ {e:Expr} (h:zbk e=true):0<=e.n:=by
 unfold zbk at h;split at h
 ·simp at h
 ·grind
def Expr.valid (e:Expr) (cells:List Cell) (pair:Bool):Bool:=e.formed&&e.allE (zb3 cells pair)
theorem ziA (a w:Int) (hw:0<=w/\w<=62):IntKind.i64.wrap ((BitVec.ofInt IntKind.i64.bits a&&& BitVec.ofInt IntKind.i64.bits (2^w.toNat-1)).toNat)=a % 2^w.toNat:=by
 have hp:=zcn w.toNat
 have hb:(BitVec.ofInt 64 a&&& BitVec.ofInt 64 (2^w.toNat-1)).toNat=(a % 2^w.toNat).toNat:=by
  have hk:w.toNat<=62:=by omega
  generalize w.toNat=k at hk
  have e1:(2:Int)^k-1=((2^k-1:Nat):Int):=by
   have:0<2^k:=Nat.pow_pos (by omega);rw[Int.ofNat_sub this];simp
  have Ad:2^k<=2^62:=Nat.pow_le_pow_right (by omega) hk
  have e2:(BitVec.ofInt 64 ((2:Int)^k-1)).toNat=2^k-1:=by
   rw[e1];simp only[BitVec.toNat_ofInt];rw[show(((2^64:Nat):Int))=((2^64:Nat):Int)from rfl,<- Int.natCast_emod,Int.toNat_natCast,Nat.mod_eq_of_lt (by omega)]
  rw[BitVec.toNat_and,e2,Nat.and_two_pow_sub_one_eq_mod,BitVec.toNat_ofInt]
  have hd:(2:Int)^k ∣ ((2^64:Nat):Int):=by
   have:(2:Nat)^k ∣ 2^64:=Nat.pow_dvd_pow 2 (by omega)
   exact_mod_cast this
  have HC:0<=a % ((2^64:Nat):Int):=Int.emod_nonneg _ (by omega);have G6:(0:Int)<2^k:=zcn k
  have:(((a % ((2^64:Nat):Int)).toNat % 2^k:Nat):Int)=a % 2^k:=by
   rw[Int.natCast_emod,Int.toNat_of_nonneg HC];rw[show((2^k:Nat):Int)=(2:Int)^k by simp];exact Int.emod_emod_of_dvd a hd
  omega
 show IntKind.i64.wrap ((BitVec.ofInt 64 a&&& BitVec.ofInt 64 (2^w.toNat-1)).toNat)=_;rw[hb];have h1:=Int.emod_nonneg a (show(2:Int)^w.toNat≠0 by omega);have h2:=Int.emod_lt_of_pos a hp;have h3:=zes (i:=w.toNat) (k:=62) (by omega);rw[zaH (by omega)];omega
def atI (l:List Int) (n:Int):Int:=l.getD n.toNat 0
theorem zfe {a:Int} (h:0<=a/\a<2^62):(BitVec.ofInt 64 a).toNat=a.toNat:=by
 simp only[BitVec.toNat_ofInt];omega
theorem znp {a b:Int} (ha:0<=a/\a<2^62) (hb:0<=b/\b<2^62):IntKind.i64.wrap ((BitVec.ofInt IntKind.i64.bits a&&& BitVec.ofInt IntKind.i64.bits b).toNat)=((a.toNat&&& b.toNat:Nat):Int):=by
 show IntKind.i64.wrap ((BitVec.ofInt 64 a&&& BitVec.ofInt 64 b).toNat)=_;rw[BitVec.toNat_and,zfe ha,zfe hb];have:a.toNat&&& b.toNat<=a.toNat:=Nat.and_le_left;exact zaH (by omega)
theorem zpg {a b:Int} (ha:0<=a/\a<2^62) (hb:0<=b/\b<2^62):IntKind.i64.wrap ((BitVec.ofInt IntKind.i64.bits a ||| BitVec.ofInt IntKind.i64.bits b).toNat)=((a.toNat ||| b.toNat:Nat):Int):=by
 show IntKind.i64.wrap ((BitVec.ofInt 64 a ||| BitVec.ofInt 64 b).toNat)=_;rw[BitVec.toNat_or,zfe ha,zfe hb];have:a.toNat ||| b.toNat<2^62:=Nat.or_lt_two_pow (by omega) (by omega);exact zaH (by omega)
theorem zl7 {a b:Int} (ha:0<=a/\a<2^62) (hb:0<=b/\b<2^62):IntKind.i64.wrap ((BitVec.ofInt IntKind.i64.bits a^^^ BitVec.ofInt IntKind.i64.bits b).toNat)=((a.toNat^^^ b.toNat:Nat):Int):=by
 show IntKind.i64.wrap ((BitVec.ofInt 64 a^^^ BitVec.ofInt 64 b).toNat)=_;rw[BitVec.toNat_xor,zfe ha,zfe hb];have:a.toNat^^^ b.toNat<2^62:=Nat.xor_lt_two_pow (by omega) (by omega);exact zaH (by omega)
def opv (op w a b c:Int):Int:=
 if op=4 then 2^w.toNat-1-a
 else if op=5 then((a.toNat&&& b.toNat:Nat):Int)
 else if op=6 then((a.toNat ||| b.toNat:Nat):Int)
 else if op=7 then((a.toNat^^^ b.toNat:Nat):Int)
 else if op=8 then(a+b) % 2^w.toNat
 else if op=9 then(a-b) % 2^w.toNat
 else if op=10 then a*b % 2^w.toNat
 else if op=11 then(if a=b then 1 else 0)
 else if op=12 then(if a<b then 1 else 0)
 else if op=13 then(if a<=b then 1 else 0)
 else(if a=1 then b else c)
def zso (e:Expr) (v:List Int):Prop:=zbk e=true/\v.length=e.kids.length/\(∀x∈v,0<=x/\x<256)/\(e.op=14->v.getD 0 0=0\/v.getD 0 0=1)
end Rg
end
section
-- FULL
-- APPS
namespace Rg
open Go
namespace Expr
mutual
def ev (old now:List Int):Expr->Int
 | .mk op w n ks=>if op=1 then n else if op=2 then atI now n % 2^w.toNat else if op=3 then atI old n % 2^w.toNat
   else opv op w ((evs old now ks).getD 0 0) ((evs old now ks).getD 1 0) ((evs old now ks).getD 2 0)
def evs (old now:List Int):List Expr->List Int
 | []=>[]
 | e::r=>ev old now e::evs old now r
end
theorem zvZ (old now:List Int): ∀l:List Expr,evs old now l=l.map (ev old now)
 | []=>rfl
 | e::r=>by rw[evs,zvZ old now r];rfl
theorem ev_eq (old now:List Int) (e:Expr):ev old now e=if e.op=1 then e.n else if e.op=2 then atI now e.n % 2^e.w.toNat else if e.op=3 then atI old e.n % 2^e.w.toNat
 else opv e.op e.w ((e.kids.map (ev old now)).getD 0 0) ((e.kids.map (ev old now)).getD 1 0) ((e.kids.map (ev old now)).getD 2 0):=by
 cases e;simp only[ev,zvZ,op,w,n,kids];rfl
end Expr
theorem zcq {d:Nat} {e:Expr} (h:e.deep d=true):zbk e=true:=by
 cases d with
 | zero=>simp[Expr.deep]at h
 | succ d=>simp only[Expr.deep,zF]at h;exact h.1
theorem zc7 {d:Nat} {e k:Expr} (h:e.deep (d+1)=true) (hk:k∈e.kids):k.deep d=true:=by
 simp only[Expr.deep,zF,zN]at h;exact h.2 k hk
theorem zmO {e:Expr} (h:zbk e=true):1<=e.w/\e.w<=8:=by
 unfold zbk at h;grind
theorem zct {e:Expr} (h:zbk e=true):zcO e.op=(e.kids.length:Int):=by
 unfold zbk at h;grind
theorem ztm {a b:Nat} {k:Nat} (ha:a<2^k):a&&& b<2^k:=Nat.lt_of_le_of_lt Nat.and_le_left ha
theorem zix (old now:List Int) (d:Nat): ∀e:Expr,e.deep d=true->0<=e.ev old now/\e.ev old now<2^e.w.toNat:=by
 induction d with
 | zero=>intro e h;simp[Expr.deep]at h
 | succ d ih=>
   intro e h;have hn:=zcq h;have hw:=zmO hn;have ha:=zct hn;have hk: ∀k∈e.kids,0<=k.ev old now/\k.ev old now<2^k.w.toNat:=fun k hk=>ih k (zc7 h hk)
   have Nt:=zcn e.w.toNat;have D0:(2:Int)<=2^e.w.toNat:=by have:=zes (i:=1) (k:=e.w.toNat) (by omega);simpa using this
   rw[Expr.ev_eq];obtain⟨op,w,n,ks⟩:=e;simp only[Expr.op_mk,Expr.w_mk,Expr.n_mk,Expr.kids_mk]at *;have hm: ∀a:Int,0<=a % 2^w.toNat/\a % 2^w.toNat<2^w.toNat:=fun a=>⟨Int.emod_nonneg _ (by omega),Int.emod_lt_of_pos _ Nt⟩
   have Pq:((2^w.toNat:Nat):Int)=2^w.toNat:=by simp
   rcases zeg op with rfl | rfl | rfl | rfl | rfl | rfl | rfl | rfl | rfl | rfl | rfl | rfl | rfl | rfl | Ao
   rotate_right
   ·rw[zd7 Ao]at ha;omega
   all_goals(
    rcases ks with _ | ⟨a,_ | ⟨b,_ | ⟨c,_ | ⟨d,r⟩⟩⟩⟩
    all_goals(try(exfalso;simp[zcO]at ha;(try omega);done)))
   all_goals(try(have Ew:=hk a (by simp)))
   all_goals(try(have Do:=hk b (by simp)))
   all_goals(try(have DO:=hk c (by simp)))
   all_goals simp[zbk,Expr.kw,go_sem,zcO]at hn
   all_goals simp[opv,go_sem]
   ·exact of_decide_eq_true hn.2
   ·exact hm _
   ·exact hm _
   ·rw[hn.2.2]at Ew;omega
   ·rw[hn.2.2.1]at Ew;have:=ztm (b:=(b.ev old now).toNat) (k:=w.toNat) (show(a.ev old now).toNat<2^w.toNat by omega);omega
   ·rw[hn.2.2.1]at Ew;rw[hn.2.2.2]at Do;have:=Nat.or_lt_two_pow (n:=w.toNat) (x:=(a.ev old now).toNat) (y:=(b.ev old now).toNat) (by omega) (by omega);omega
   ·rw[hn.2.2.1]at Ew;rw[hn.2.2.2]at Do;have:=Nat.xor_lt_two_pow (n:=w.toNat) (x:=(a.ev old now).toNat) (y:=(b.ev old now).toNat) (by omega) (by omega);omega
   ·exact hm _
   ·exact hm _
   ·exact hm _
   ·split<;>omega
   ·split<;>omega
   ·split<;>omega
   ·rw[hn.2.2.2.1]at Do;rw[hn.2.2.2.2]at DO;split<;>omega
theorem zpl {d:Nat} {e:Expr} (old now:List Int) (h:e.deep (d+1)=true):zso e (e.kids.map (Expr.ev old now)):=by
 have hn:=zcq h;refine⟨hn,by simp,?_,?_⟩
 ·intro x hx;obtain⟨k,hk,rfl⟩:=List.mem_map.1 hx;have h1:=zix old now d k (zc7 h hk);have h2:=zmO (zcq (zc7 h hk));have h3:=zes (i:=k.w.toNat) (k:=8) (by omega);omega
 ·intro C0;have ha:=zct hn;obtain⟨op,w,n,ks⟩:=e;simp only[Expr.op_mk,Expr.kids_mk]at *;subst C0;rcases ks with _ | ⟨a,_ | ⟨b,_ | ⟨c,_ | ⟨d,r⟩⟩⟩⟩
  all_goals(try(exfalso;simp[zcO]at ha;(try omega);done))
  have h1:=zix old now _ a (zc7 h (by simp[Expr.kids_mk]));simp[zbk,Expr.kw,go_sem,zcO]at hn;rw[hn.2.2.1,show(2:Int)^(Int.toNat 1)=2 from rfl]at h1;show _\/_;simp only[List.map_cons,List.getD_cons_zero];omega
def Expr.eval (e:Expr) (old now:List Int):Int:=if e.formed then e.ev old now else 0
theorem zcp {e:Expr} (h:e.formed=true):e.deep 40=true:=by
 simp only[Expr.formed,zF]at h;exact h.2
theorem zk7 (ks:List Expr) (ws:List Int) (hl:ws.length<=3):Den Γ G 91 [.t (.sl (ks.map Expr.enc)),.t (ints ws)]=some (vb (decide (ks.map Expr.w=ws))):=by
 (refine zag Γ91 rfl ?_;dsimp only[f91])
 simp -dsimp only[go_sem,seval];refine zac (fun h=> ?_) (fun h=> ?_)<;>(try simp only[zah]at h)<;>(try simp -dsimp only[go_sem,seval, *])
 ·have : ¬ks.map Expr.w=ws:=fun he=>by have:=congrArg List.length he;simp at this;omega
  simp[this]
 ·have Ac:ks.length=ws.length:=by omega
  refine zaT 134201456 ws.length (fun i f=>(f 14).v=vi i/\(ks.take i).map Expr.w=ws.take i) rfl rfl ⟨by simp -dsimp only[go_sem,seval],by simp⟩ ?_;rintro i f u kk bb hi ⟨C0,ht⟩;have hw:=zan i (by omega);simp -dsimp only[go_sem,seval,C0];refine zac (fun h=> ?_) (fun h=> ?_)<;>(try simp only[zah]at h)<;>(try simp -dsimp only[go_sem,seval, *])
  ·have hx:ws[i]? =some ws[i]:=zI (by omega);have hy:ks[i]? =some ks[i]:=zI (by omega);simp -dsimp only[go_sem,seval,C0,hx,hy];refine zac (fun h=> ?_) (fun h=> ?_)<;>(try simp only[zah]at h)<;>(try simp -dsimp only[go_sem,seval, *])
   ·have : ¬ks.map Expr.w=ws:=fun he=>by
     have:=congrArg (fun l=>l[i]?) he;simp only[zJ,hx,hy,Option.map_some,zA]at this;contradiction
    simp[this]
   ·refine⟨by omega,by simp -dsimp only[go_sem,seval,hw],?_⟩;rw[zaf hx,zaf hy,List.map_append,ht];simp[h]
  ·have:i=ws.length:=by omega
   subst this;rw[List.take_length,<- Ac,List.take_length]at ht;simp[ht]
@[go_sem]theorem G_0:G 0=[ti 0,ti 1,ti 3,ti 7,ti 15,ti 31,ti 63,ti 127,ti 255]:=rfl
theorem zdR {w:Int} (h:1<=w/\w<=8):w=1\/w=2\/w=3\/w=4\/w=5\/w=6\/w=7\/w=8:=by omega
theorem zno {op:Int} (h:5<=op/\op<=13):zcO op=2:=by unfold zcO;grind
theorem zeQ (op w n:Int) (ks:List Expr):zbk (.mk op w n ks)=
 if zcO op≠ks.length\/w<1\/w>8 then false
 else if op=1 then decide (0<=n/\n<2^w.toNat)
 else if op=2\/op=3 then decide (0<=n/\n<32)
 else if op=4 then decide (n=0/\(Expr.mk op w n ks).kw 0=w)
 else if op=11\/op=12\/op=13 then decide (n=0/\w=1/\(Expr.mk op w n ks).kw 0=(Expr.mk op w n ks).kw 1)
 else if op=14 then decide (n=0/\(Expr.mk op w n ks).kw 0=1/\(Expr.mk op w n ks).kw 1=w/\(Expr.mk op w n ks).kw 2=w)
 else decide (n=0/\(Expr.mk op w n ks).kw 0=w/\(Expr.mk op w n ks).kw 1=w):=rfl
theorem zxv (op w n:Int) (a:Expr) (r:List Expr):(Expr.mk op w n (a::r)).kw 0=a.w:=rfl
theorem zyH (op w n:Int) (a b:Expr) (r:List Expr):(Expr.mk op w n (a::b::r)).kw 1=b.w:=rfl
theorem zC6 (op w n:Int) (a b c:Expr) (r:List Expr):(Expr.mk op w n (a::b::c::r)).kw 2=c.w:=rfl
theorem zbK {op w n:Int} {ks:List Expr} (h:5<=op/\op<=10) (hw:1<=w/\w<=8):zbk (.mk op w n ks)=decide (n=0/\ks.map Expr.w=[w,w]):=by
 rw[zeQ,zno (show 5<=op/\op<=13 by omega),if_neg (show ¬op=1 by omega),if_neg (show ¬(op=2\/op=3)by omega),if_neg (show ¬op=4 by omega),if_neg (show ¬(op=11\/op=12\/op=13)by omega),if_neg (show ¬op=14 by omega)];rcases ks with _ | ⟨a,_ | ⟨b,_ | ⟨c,r⟩⟩⟩
 ·rw[if_pos (by simp)];simp
 ·rw[if_pos (by simp)];simp
 ·rw[if_neg (by simp;omega),zxv,zyH];simp
 ·rw[if_pos (by simp;omega)];simp
theorem zdQ {op w n:Int} {ks:List Expr} (h:11<=op/\op<=13) (hw:1<=w/\w<=8):zbk (.mk op w n ks)=decide (n=0/\w=1/\ks.length=2/\(Expr.mk op w n ks).kw 0=(Expr.mk op w n ks).kw 1):=by
 rw[zeQ,zno (show 5<=op/\op<=13 by omega),if_neg (show ¬op=1 by omega),if_neg (show ¬(op=2\/op=3)by omega),if_neg (show ¬op=4 by omega),if_pos (show(op=11\/op=12\/op=13)by omega)]
 by_cases hl:ks.length=2
 ·rw[if_neg (by omega)];simp[hl]
 ·rw[if_pos (by omega)];simp[hl]
theorem zkB {w n:Int} {ks:List Expr} (hw:1<=w/\w<=8):zbk (.mk 4 w n ks)=decide (n=0/\ks.map Expr.w=[w]):=by
 rw[zeQ,show zcO 4=1 from rfl,if_neg (show ¬(4:Int)=1 by omega),if_neg (show ¬((4:Int)=2\/(4:Int)=3)by omega),if_pos rfl];rcases ks with _ | ⟨a,_ | ⟨b,r⟩⟩
 ·rw[if_pos (by simp)];simp
 ·rw[if_neg (by simp;omega),zxv];simp
 ·rw[if_pos (by simp;omega)];simp
theorem zkC {w n:Int} {ks:List Expr} (hw:1<=w/\w<=8):zbk (.mk 14 w n ks)=decide (n=0/\ks.map Expr.w=[1,w,w]):=by
 rw[zeQ,show zcO 14=3 from rfl,if_neg (show ¬(14:Int)=1 by omega),if_neg (show ¬((14:Int)=2\/(14:Int)=3)by omega),if_neg (show ¬(14:Int)=4 by omega),if_neg (show ¬((14:Int)=11\/(14:Int)=12\/(14:Int)=13)by omega),if_pos rfl];rcases ks with _ | ⟨a,_ | ⟨b,_ | ⟨c,_ | ⟨d,r⟩⟩⟩⟩
 ·rw[if_pos (by simp)];simp
 ·rw[if_pos (by simp)];simp
 ·rw[if_pos (by simp)];simp
 ·rw[if_neg (by simp;omega),zxv,zyH,zC6];simp
 ·rw[if_pos (by simp;omega)];simp
theorem ze3 {op w n:Int} {ks:List Expr} (h:1<=op/\op<=3) (hw:1<=w/\w<=8):zbk (.mk op w n ks)=decide (ks.length=0/\0<=n/\(if op=1 then n<2^w.toNat else n<32)):=by
 have ha:zcO op=0:=by unfold zcO;rw[if_pos h]
 rw[zeQ,ha]
 by_cases hl:ks.length=0
 ·rw[if_neg (by omega)]
  by_cases h1:op=1
  ·simp[h1,hl]
  ·rw[if_neg h1,if_pos (by omega)];simp[h1,hl]
 ·rw[if_pos (by omega)];simp[hl]
theorem zkD {op w n:Int} {ks:List Expr} (h:op<1\/14<op):zbk (.mk op w n ks)=false:=by
 rw[zeQ,zd7 h,if_pos (by omega)]
theorem zr7 {op w n:Int} {ks:List Expr} (h: ¬(1<=op/\op<=3)) (hw:1<=w/\w<=8) (hn: ¬n=0):zbk (.mk op w n ks)=false:=by
 rcases zeg op with rfl | rfl | rfl | rfl | rfl | rfl | rfl | rfl | rfl | rfl | rfl | rfl | rfl | rfl | Ao
 ·omega
 ·omega
 ·omega
 ·rw[zkB hw];simp[hn]
 ·rw[zbK (by omega) hw];simp[hn]
 ·rw[zbK (by omega) hw];simp[hn]
 ·rw[zbK (by omega) hw];simp[hn]
 ·rw[zbK (by omega) hw];simp[hn]
 ·rw[zbK (by omega) hw];simp[hn]
 ·rw[zbK (by omega) hw];simp[hn]
 ·rw[zdQ (by omega) hw];simp[hn]
 ·rw[zdQ (by omega) hw];simp[hn]
 ·rw[zdQ (by omega) hw];simp[hn]
 ·rw[zkC hw];simp[hn]
 ·exact zkD Ao
set_option maxHeartbeats 4000000 in
theorem zqb (e:Expr):Den Γ G 71 [.t (.ip [ti e.op,ti e.w,ti e.n,.sl (e.kids.map Expr.enc)])]=some (vb (zbk e)):=by
 obtain⟨op,w,n,ks⟩:=e;simp only[Expr.op_mk,Expr.w_mk,Expr.n_mk,Expr.kids_mk]
 (refine zag Γ71 rfl ?_;dsimp only[f71])
 by_cases hw:1<=w/\w<=8
 ·have h1: ¬w<1:=by omega
  have h2: ¬w>8:=by omega
  have Kx:=zk7 ks [w] (by simp);have GX:=zk7 ks [w,w] (by simp);have M4:=zk7 ks [1,w,w] (by simp);simp only[ints,List.map_cons,List.map_nil]at Kx GX M4
  by_cases Eg:op=1
  ·subst Eg;rw[ze3 (by omega) hw];clear Kx GX M4;rcases zdR hw with rfl | rfl | rfl | rfl | rfl | rfl | rfl | rfl
   all_goals(
    simp -dsimp only[go_sem,seval]
    repeat'(refine zac (fun h=> ?_) (fun h=> ?_)<;>(try simp only[zah]at h)<;>(try simp -dsimp only[go_sem,seval, *]))
    all_goals((try simp only[Int.reduceToNat,Int.reducePow,Int.reduceEq,reduceIte]);first | exact(decide_eq_false (by omega)).symm | (simp;done) | (apply decide_eq_decide.2;omega)))
  ·by_cases J0:op=2\/op=3
   ·rw[ze3 (by omega) hw];clear Kx GX M4;rcases J0 with rfl | rfl
    all_goals(
     simp -dsimp only[go_sem,seval,h1,h2]
     repeat'(refine zac (fun h=> ?_) (fun h=> ?_)<;>(try simp only[zah]at h)<;>(try simp -dsimp only[go_sem,seval, *]))
     all_goals((try simp only[Int.reduceEq,reduceIte]);first | exact(decide_eq_false (by omega)).symm | (simp;done) | (apply decide_eq_decide.2;omega)))
   ·have e1: ¬op=2:=by omega
    have e2: ¬op=3:=by omega
    by_cases hn:n=0
    ·rcases zeg op with rfl | rfl | rfl | rfl | rfl | rfl | rfl | rfl | rfl | rfl | rfl | rfl | rfl | rfl | Ao
     ·omega
     ·omega
     ·omega
     ·rw[zkB hw];simp -dsimp only[go_sem,seval,h1,h2,hn,Kx]
     ·rw[zbK (by omega) hw];simp -dsimp only[go_sem,seval,h1,h2,hn,GX]
     ·rw[zbK (by omega) hw];simp -dsimp only[go_sem,seval,h1,h2,hn,GX]
     ·rw[zbK (by omega) hw];simp -dsimp only[go_sem,seval,h1,h2,hn,GX]
     ·rw[zbK (by omega) hw];simp -dsimp only[go_sem,seval,h1,h2,hn,GX]
     ·rw[zbK (by omega) hw];simp -dsimp only[go_sem,seval,h1,h2,hn,GX]
     ·rw[zbK (by omega) hw];simp -dsimp only[go_sem,seval,h1,h2,hn,GX]
     ·rw[zdQ (by omega) hw];rcases ks with _ | ⟨a,_ | ⟨b,_ | ⟨c,r⟩⟩⟩
      all_goals(
       simp -dsimp only[go_sem,seval,h1,h2,hn]
       repeat'(refine zac (fun h=> ?_) (fun h=> ?_)<;>(try simp only[zah]at h)<;>(try simp -dsimp only[go_sem,seval, *]))
       all_goals(simp[zxv,zyH, *])
       all_goals(first | rfl | omega))
     ·rw[zdQ (by omega) hw];rcases ks with _ | ⟨a,_ | ⟨b,_ | ⟨c,r⟩⟩⟩
      all_goals(
       simp -dsimp only[go_sem,seval,h1,h2,hn]
       repeat'(refine zac (fun h=> ?_) (fun h=> ?_)<;>(try simp only[zah]at h)<;>(try simp -dsimp only[go_sem,seval, *]))
       all_goals(simp[zxv,zyH, *])
       all_goals(first | rfl | omega))
     ·rw[zdQ (by omega) hw];rcases ks with _ | ⟨a,_ | ⟨b,_ | ⟨c,r⟩⟩⟩
      all_goals(
       simp -dsimp only[go_sem,seval,h1,h2,hn]
       repeat'(refine zac (fun h=> ?_) (fun h=> ?_)<;>(try simp only[zah]at h)<;>(try simp -dsimp only[go_sem,seval, *]))
       all_goals(simp[zxv,zyH, *])
       all_goals(first | rfl | omega))
     ·rw[zkC hw];simp -dsimp only[go_sem,seval,h1,h2,hn,M4]
     ·rw[zkD Ao];have n1: ¬op=4:=by omega
      have n2: ¬op=5:=by omega
      have n3: ¬op=6:=by omega
      have n4: ¬op=7:=by omega
      have n5: ¬op=8:=by omega
      have n6: ¬op=9:=by omega
      have n7: ¬op=10:=by omega
      have n8: ¬op=11:=by omega
      have n9: ¬op=12:=by omega
      have n10: ¬op=13:=by omega
      have n11: ¬op=14:=by omega
      simp -dsimp only[go_sem,seval,h1,h2,hn,Eg,e1,e2,n1,n2,n3,n4,n5,n6,n7,n8,n9,n10,n11]
    ·rw[zr7 (by omega) hw hn];simp -dsimp only[go_sem,seval,h1,h2,Eg,e1,e2,hn]
 ·by_cases h1:w<1
  ·simp -dsimp only[go_sem,seval,h1];simp only[zbk,go_sem];grind
  ·have h2:w>8:=by omega
   simp -dsimp only[go_sem,seval,h1,h2];simp only[zbk,go_sem];grind
end Rg
end
section
namespace Rg
open Go
theorem zgK {α:Type} (f:Nat->α) (i:Nat) (v w:α):updC (updC f i v) i w=updC f i w:=by
 rw[zaL];funext j;unfold upd;split<;>rfl
def zBY (h:Nat->Option O) (kc:Nat) (v:V) (e:Expr):Prop:=
 v= .t (.ip [ti e.op,ti e.w,ti e.n,.sl (e.kids.map Expr.enc)])\/
 ∃k fz,v= .mp k 0 0/\k≠kc/\h k=some (.rows 4 [[.t (ti e.op),.t (ti e.w),.t (ti e.n),.t (.sl (e.kids.map Expr.enc))]] fz)
theorem zre (d:Nat): ∀(e:Expr) (v:V) (c:Int) (H:Nat->Option O) (n kc kv:Nat) (fz:Bool),
 d<=40->zBY H kc v e->0<=c->c<=600->kv≠kc->H kc=some (.rows 1 [[vi c]] false)->H kv=some (.rows 1 [[.fn 70 [] [.mp kc 0 0,.mp kv 0 0]]] fz)->
 ∃r h' n',DenR Γ G 70 [v,vi (41-d),.mp kc 0 0,.mp kv 0 0] H n=some (r,h',n')/\
  r=vb (e.deep d&&decide (c+e.size<=600))/\ ∃c':Int,h'=updC H kc (some (.rows 1 [[vi c']] false))/\(e.deep d=true->c+e.size<=600->c'=c+e.size):=by
 induction d with
 | zero=>
   intro e v c H n kc kv fz hd hv CM hc Az DO Eh
   (refine zay Γ70 rfl ?_;dsimp only[f70])
   have hw:IntKind.i64.wrap (c+1)=c+1:=zaH (by omega);have JR:(41-((0:Nat):Int))>40:=by omega
   rcases hv with rfl | ⟨k,fk,rfl,hk,AB⟩
   all_goals(
    simp -dsimp only[go_sem,seval,DO,hw,JR]
    repeat'(refine zac (fun h=> ?_) (fun h=> ?_)<;>(try simp only[zah]at h)<;>(try simp -dsimp only[go_sem,seval, *]))
    all_goals(exact⟨by simp -dsimp only[go_sem,seval,Expr.deep,Bool.false_and],c+1,by simp -dsimp only[go_sem,seval],by simp[Expr.deep]⟩))
 | succ d ih=>
   intro e v c H n kc kv fz hd hv CM hc Az DO Eh
   (refine zay Γ70 rfl ?_;dsimp only[f70])
   have hw:IntKind.i64.wrap (c+1)=c+1:=zaH (by omega);have JR: ¬(41-((d+1:Nat):Int))>40:=by omega
   have BO:IntKind.i64.wrap (41-((d+1:Nat):Int)+1)=41-(d:Int):=by rw[zaH (by omega)];omega
   have Bo:=zqb e;have AS:=Expr.size_eq e;have CB:=Expr.size_pos e;rcases hv with rfl | ⟨k,fk,rfl,hk,AB⟩
   all_goals(
    have CK:=hw
    (try have CK:=hk)
    simp -dsimp only[go_sem,seval,DO,hw,JR];refine zac (fun h=> ?_) (fun h=> ?_)<;>(try simp only[zah]at h)<;>(try simp -dsimp only[go_sem,seval, *])
    ·refine⟨?_,c+1,by simp -dsimp only[go_sem,seval],fun _ A5=>by omega⟩;simp -dsimp only[go_sem,seval];have : ¬(c+(e.size:Int)<=600):=by omega
     simp[this]
    ·refine zac (fun h=> ?_) (fun h=> ?_)<;>(try simp only[zah]at h)<;>(try simp -dsimp only[go_sem,seval, *])
     ·refine⟨?_,c+1,by simp -dsimp only[go_sem,seval],fun M3=>by rw[zcq M3]at h;simp at h⟩;simp -dsimp only[go_sem,seval];simp[Expr.deep,h]
     ·have Ac:=zdj h
      refine zaq 2198956146880 e.kids.length (fun i f hh x=>(f 26).v=vi i/\ ∃c':Int,hh=updC H kc (some (.rows 1 [[vi c']] false))/\c'=c+1+((e.kids.take i).map Expr.size).sum/\c'<=600/\(e.kids.take i).all (Expr.deep d)=true) rfl
       ⟨by simp -dsimp only[go_sem,seval],c+1,by simp -dsimp only[go_sem,seval],by simp,by omega,by simp⟩ ?_
      rintro i f u hh x bs hi ⟨Fx,c',rfl,Bz,A5,Aa⟩;have BF:=zan i (by omega);simp -dsimp only[go_sem,seval,Fx];refine zac (fun h=> ?_) (fun h=> ?_)<;>(try simp only[zah]at h)<;>(try simp -dsimp only[go_sem,seval, *])
      ·obtain⟨y,hy,hm⟩:=zai ‹i<e.kids.length›;simp -dsimp only[go_sem,seval,Fx,hy,Az,Eh,BO,CK];refine zas (ih y _ c' _ _ kc kv fz (by omega) (.inl rfl) (by omega) A5 Az (by rw[zaa];simp) (by rw[zaa];simp[Az,Eh])) ?_;rintro r h' n' ⟨rfl,c2,rfl,CG⟩;simp -dsimp only[go_sem,seval];have FR:=Expr.take_le_size e.kids (i+1)
       have Hw:((e.kids.take (i+1)).map Expr.size).sum=((e.kids.take i).map Expr.size).sum+y.size:=by
        rw[zaf hy];simp
       refine zac (fun h=> ?_) (fun h=> ?_)<;>(try simp only[zah]at h)<;>(try simp -dsimp only[go_sem,seval, *])
       ·refine⟨?_,c2,by simp -dsimp only[go_sem,seval,zgK],fun M3 HV=> ?_⟩
        ·simp -dsimp only[go_sem,seval];simp only[Bool.and_eq_false_iff,decide_eq_false_iff_not]at h;rcases h with h | h
         ·rw[Expr.deep,zcr hm h];simp
         ·have : ¬c+(e.size:Int)<=600:=by omega
          simp[this]
        ·have IP:=zc7 M3 hm;have:c'+(y.size:Int)<=600:=by omega
         simp[IP,this]at h
       ·simp only[zF,decide_eq_true_eq]at h;have h2:=CG h.1 h.2;exact⟨by omega,by simp -dsimp only[go_sem,seval,BF],c2,by simp -dsimp only[go_sem,seval,zgK],by omega,by omega,zdP hy Aa h.1⟩
      ·have:i=e.kids.length:=by omega
       subst this;rw[List.take_length]at Aa Bz;refine⟨?_,c',by simp -dsimp only[go_sem,seval],fun M3 HV=>by omega⟩;simp -dsimp only[go_sem,seval];have:c+(e.size:Int)<=600:=by omega
       simp[Expr.deep,Aa,this,‹zbk e=true›])
theorem zeo (e:Expr):Den Γ G 51 [(.agg [.t (ti (e).op),.t (ti (e).w),.t (ti (e).n),.t (.sl ((e).kids.map (Expr.enc)))])]=some (vb e.formed):=by
 (refine zag Γ51 rfl ?_;dsimp only[f51])
 simp -dsimp only[go_sem,seval];refine zas (zre 40 e _ 0 _ _ _ _ false (by omega) (.inr ⟨_,false,rfl,?_,?_⟩) (by omega) (by omega) ?_ ?_ ?_) ?_
 ·decide
 ·simp -dsimp only[go_sem,seval]
 ·decide
 ·simp -dsimp only[go_sem,seval]
 ·simp -dsimp only[go_sem,seval]
 ·rintro r h' n' ⟨rfl,c',rfl,_⟩;simp -dsimp only[go_sem,seval];simp only[Expr.formed];rw[Bool.and_comm]
  congr 1
  by_cases h:e.size<=600
  ·simp[h];omega
  ·simp[h];omega
theorem zjx (l:List Int) (n:Int) (hn:0<=n):Den Γ G 72 [.t (ints l),vi n]=some (vi (atI l n)):=by
 (refine zag Γ72 rfl ?_;dsimp only[f72])
 rcases hc:l[n.toNat]? with _ | c
 ·have Bv: ¬n<(l.length:Int):=by rw[List.getElem?_eq_none_iff]at hc;omega
  simp -dsimp only[go_sem,seval,Bv];simp[atI,List.getD,hc]
 ·have Bv:n<(l.length:Int):=by have:=(zH.1 hc).1;omega
  simp -dsimp only[go_sem,seval,Bv,hn,hc];simp[atI,List.getD,hc]
theorem zmd (b:Bool):Den Γ G 92 [vb b]=some (vi (if b then 1 else 0)):=by
 (refine zag Γ92 rfl ?_;dsimp only[f92])
 cases b
 ·simp -dsimp only[go_sem,seval]
 ·simp -dsimp only[go_sem,seval]
theorem zr6 {a:Int} (ha:0<=a/\a<2^62):IntKind.i64.wrap ((BitVec.ofInt IntKind.i64.bits (-1)^^^ BitVec.ofInt IntKind.i64.bits a).toNat)= -1-a:=by
 show IntKind.i64.wrap ((BitVec.ofInt 64 (-1)^^^ BitVec.ofInt 64 a).toNat)=_;have h1:BitVec.ofInt 64 (-1)=BitVec.allOnes 64:=by decide
 rw[h1,BitVec.allOnes_xor,BitVec.toNat_not,zfe ha,IntKind.wrap_i64];omega
def zv7 (op a b c:Int):Int:=
 if op=4 then -1-a
 else if op=5 then((a.toNat&&& b.toNat:Nat):Int)
 else if op=6 then((a.toNat ||| b.toNat:Nat):Int)
 else if op=7 then((a.toNat^^^ b.toNat:Nat):Int)
 else if op=8 then a+b
 else if op=9 then a-b
 else if op=10 then a*b
 else if op=11 then(if a=b then 1 else 0)
 else if op=12 then(if a<b then 1 else 0)
 else if op=13 then(if a<=b then 1 else 0)
 else if op=14 then(if a=1 then b else c)
 else 0
set_option maxHeartbeats 2000000 in
theorem zhH (op a b c:Int) (Ao:4<=op/\op<=14) (ha:0<=a/\a<256) (hb:0<=b/\b<256) (hc:0<=c/\c<256):Den Γ G 73 [vi op,.agg [vi a,vi b,vi c]]=some (vi (zv7 op a b c)):=by
 (refine zag Γ73 rfl ?_;dsimp only[f73])
 have LU:=znp (a:=a) (b:=b) (by omega) (by omega);have F6:=zpg (a:=a) (b:=b) (by omega) (by omega);have K8:=zl7 (a:=a) (b:=b) (by omega) (by omega);have GD:=zr6 (a:=a) (by omega)
 have Lh:0<=a*b/\a*b<=65536:=⟨Int.mul_nonneg ha.1 hb.1,by
  have h1:a*b<=256*b:=Int.mul_le_mul_of_nonneg_right (by omega) hb.1
  omega⟩
 have Cj:IntKind.i64.wrap (a+b)=a+b:=zaH (by omega);have BO:IntKind.i64.wrap (a+ -b)=a-b:=by rw[zaH (by omega)];omega
 have Gl:IntKind.i64.wrap (0-b)= -b:=by rw[zaH (by omega)];omega
 have Kd:IntKind.i64.wrap (a*b)=a*b:=zaH (by omega);have Hw:=zmd (decide (a=b));have HI:=zmd (decide (a<b));have PV:IntKind.i64.signed=true:=rfl;have AL:op=4\/op=5\/op=6\/op=7\/op=8\/op=9\/op=10\/op=11\/op=12\/op=13\/op=14:=by omega
 clear Lh Ao;rcases AL with rfl | rfl | rfl | rfl | rfl | rfl | rfl | rfl | rfl | rfl | rfl
 ·simp -dsimp only[go_sem,seval,GD,PV];rfl
 ·simp -dsimp only[go_sem,seval,LU];rfl
 ·simp -dsimp only[go_sem,seval,F6];rfl
 ·simp -dsimp only[go_sem,seval,K8];rfl
 ·simp -dsimp only[go_sem,seval,Cj];rfl
 ·simp -dsimp only[go_sem,seval,BO,Gl];rfl
 ·simp -dsimp only[go_sem,seval,Kd];rfl
 ·simp -dsimp only[go_sem,seval,Hw];simp[zv7]
 ·simp -dsimp only[go_sem,seval,HI];simp[zv7]
 ·simp -dsimp only[go_sem,seval,HI];refine zac (fun h=> ?_) (fun h=> ?_)<;>(try simp only[zah]at h)<;>(try simp -dsimp only[go_sem,seval, *])
  ·simp[zv7,h]
  ·have:a<=b<->a<b:=by omega
   simp[zv7,this]
 ·simp -dsimp only[go_sem,seval];refine zac (fun h=> ?_) (fun h=> ?_)<;>(try simp only[zah]at h)<;>(try simp -dsimp only[go_sem,seval, *])
  ·simp[zv7]
  ·simp[zv7,h]
end Rg
end
section
namespace Rg
open Go
theorem ztl (x m w:Int) (hw:0<=w/\w<=62) (hm:m=2^w.toNat-1):IntKind.i64.wrap ((BitVec.ofInt IntKind.i64.bits x&&& BitVec.ofInt IntKind.i64.bits m).toNat)=x % 2^w.toNat:=by
 subst hm;exact ziA x w hw
theorem zvv {op w a b c:Int} (Ao:4<=op/\op<=14) (hw:1<=w) (ho:0<=opv op w a b c/\opv op w a b c<2^w.toNat) (ha:0<=a):zv7 op a b c % 2^w.toNat=opv op w a b c:=by
 have Nt:=zcn w.toNat;have AL:op=4\/op=5\/op=6\/op=7\/op=8\/op=9\/op=10\/op=11\/op=12\/op=13\/op=14:=by omega
 rcases AL with rfl | rfl | rfl | rfl | rfl | rfl | rfl | rfl | rfl | rfl | rfl
 ·have h1:(-1-a) % 2^w.toNat=(2^w.toNat-1-a) % 2^w.toNat:=by
   rw[show 2^w.toNat-1-a=(-1-a)+2^w.toNat by omega,Int.add_emod_right]
  show(-1-a) % 2^w.toNat=2^w.toNat-1-a;rw[h1];exact Int.emod_eq_of_lt ho.1 ho.2
 ·exact Int.emod_eq_of_lt ho.1 ho.2
 ·exact Int.emod_eq_of_lt ho.1 ho.2
 ·exact Int.emod_eq_of_lt ho.1 ho.2
 ·rfl
 ·rfl
 ·rfl
 ·exact Int.emod_eq_of_lt ho.1 ho.2
 ·exact Int.emod_eq_of_lt ho.1 ho.2
 ·exact Int.emod_eq_of_lt ho.1 ho.2
 ·exact Int.emod_eq_of_lt ho.1 ho.2
theorem zsi {e:Expr} (h:zbk e=true) (h1: ¬e.op=1) (h2: ¬e.op=2) (h3: ¬e.op=3):4<=e.op/\e.op<=14:=by
 have:=zct h;rcases zeg e.op with hh | hh | hh | hh | hh | hh | hh | hh | hh | hh | hh | hh | hh | hh | Ao
 all_goals(try omega)
 rw[zd7 Ao]at this;omega
set_option maxHeartbeats 4000000 in
theorem zp2 (old now:List Int) (d:Nat): ∀e:Expr,e.deep d=true->Den Γ G 56 [.t (.ip [ti e.op,ti e.w,ti e.n,.sl (e.kids.map Expr.enc)]),.t (ints old),.t (ints now)]=some (vi (e.ev old now)):=by
 induction d with
 | zero=>intro e h;simp[Expr.deep]at h
 | succ d ih=>
   intro e h;have hn:=zcq h;have hw:=zmO hn;have Cg:=zfZ hn;have D9:=zdj hn
   (refine zag Γ56 rfl ?_;dsimp only[f56])
   by_cases h1:e.op=1
   ·simp -dsimp only[go_sem,seval,h1];rw[Expr.ev_eq,if_pos h1]
   ·have key: ∀m:Int,m=2^e.w.toNat-1->(∀x:Int,IntKind.i64.wrap ((BitVec.ofInt IntKind.i64.bits x&&& BitVec.ofInt IntKind.i64.bits m).toNat)=x % 2^e.w.toNat):=fun m hm x=>ztl x m e.w (by omega) hm
    by_cases h2:e.op=2
    ·have h3:=zjx now e.n Cg;have Ak:e.ev old now=atI now e.n % 2^e.w.toNat:=by rw[Expr.ev_eq,if_neg h1,if_pos h2]
     rw[Ak]
     generalize e.w=w at *
     rcases zdR hw with rfl | rfl | rfl | rfl | rfl | rfl | rfl | rfl
     ·have km:=key 1 rfl;simp -dsimp only[go_sem,seval,h2,h3,km]
     ·have km:=key 3 rfl;simp -dsimp only[go_sem,seval,h2,h3,km]
     ·have km:=key 7 rfl;simp -dsimp only[go_sem,seval,h2,h3,km]
     ·have km:=key 15 rfl;simp -dsimp only[go_sem,seval,h2,h3,km]
     ·have km:=key 31 rfl;simp -dsimp only[go_sem,seval,h2,h3,km]
     ·have km:=key 63 rfl;simp -dsimp only[go_sem,seval,h2,h3,km]
     ·have km:=key 127 rfl;simp -dsimp only[go_sem,seval,h2,h3,km]
     ·have km:=key 255 rfl;simp -dsimp only[go_sem,seval,h2,h3,km]
    ·by_cases h3:e.op=3
     ·have BV:=zjx old e.n Cg;have Ak:e.ev old now=atI old e.n % 2^e.w.toNat:=by rw[Expr.ev_eq,if_neg h1,if_neg h2,if_pos h3]
      rw[Ak]
      generalize e.w=w at *
      rcases zdR hw with rfl | rfl | rfl | rfl | rfl | rfl | rfl | rfl
      ·have km:=key 1 rfl;simp -dsimp only[go_sem,seval,h3,BV,km]
      ·have km:=key 3 rfl;simp -dsimp only[go_sem,seval,h3,BV,km]
      ·have km:=key 7 rfl;simp -dsimp only[go_sem,seval,h3,BV,km]
      ·have km:=key 15 rfl;simp -dsimp only[go_sem,seval,h3,BV,km]
      ·have km:=key 31 rfl;simp -dsimp only[go_sem,seval,h3,BV,km]
      ·have km:=key 63 rfl;simp -dsimp only[go_sem,seval,h3,BV,km]
      ·have km:=key 127 rfl;simp -dsimp only[go_sem,seval,h3,BV,km]
      ·have km:=key 255 rfl;simp -dsimp only[go_sem,seval,h3,BV,km]
     ·have Ao:=zsi hn h1 h2 h3;have hb:=zix old now _ e h
      have Ak:e.ev old now=opv e.op e.w ((e.kids.map (Expr.ev old now)).getD 0 0) ((e.kids.map (Expr.ev old now)).getD 1 0) ((e.kids.map (Expr.ev old now)).getD 2 0):=by
       rw[Expr.ev_eq,if_neg h1,if_neg h2,if_neg h3]
      have hk: ∀k∈e.kids,Den Γ G 56 [.t (.ip [ti k.op,ti k.w,ti k.n,.sl (k.kids.map Expr.enc)]),.t (ints old),.t (ints now)]=some (vi (k.ev old now)):=fun k hk=>ih k (zc7 h hk)
      have AJ:=(zpl old now h).2.2.1;rw[Ak]at hb;have CD:=zvv (a:=((e.kids.map (Expr.ev old now)).getD 0 0)) (b:=((e.kids.map (Expr.ev old now)).getD 1 0)) (c:=((e.kids.map (Expr.ev old now)).getD 2 0)) Ao hw.1 hb;rw[Ak];clear Ak hb ih;simp -dsimp only[go_sem,seval,h1,h2,h3]
      generalize he:e.kids=ks at *
      rcases ks with _ | ⟨a,_ | ⟨b,_ | ⟨c,_ | ⟨x,r⟩⟩⟩⟩
      ·exfalso;have ha:=zct hn;rw[he]at ha;rcases Ao with⟨o1,o2⟩
       have:1<=zcO e.op:=by unfold zcO;grind
       simp at ha;omega
      ·have Ew:=hk a (by simp);have Kv:=AJ (a.ev old now) (by simp);have hd:=zhH e.op (a.ev old now) 0 0 Ao (by omega) (by omega) (by omega);have CD:=CD (by simp only[List.map_cons,List.getD_cons_zero];omega);rw[<- CD];clear CD;refine zaD ?_;simp -dsimp only[go_sem,seval,he,Ew];refine zaD ?_
       generalize e.w=w at *
       rcases zdR hw with rfl | rfl | rfl | rfl | rfl | rfl | rfl | rfl
       ·have km:=key 1 rfl;simp -dsimp only[go_sem,seval,he,hd,km,List.map_cons,List.map_nil,List.getD_cons_zero,List.getD_cons_succ,List.getD_nil]
       ·have km:=key 3 rfl;simp -dsimp only[go_sem,seval,he,hd,km,List.map_cons,List.map_nil,List.getD_cons_zero,List.getD_cons_succ,List.getD_nil]
       ·have km:=key 7 rfl;simp -dsimp only[go_sem,seval,he,hd,km,List.map_cons,List.map_nil,List.getD_cons_zero,List.getD_cons_succ,List.getD_nil]
       ·have km:=key 15 rfl;simp -dsimp only[go_sem,seval,he,hd,km,List.map_cons,List.map_nil,List.getD_cons_zero,List.getD_cons_succ,List.getD_nil]
       ·have km:=key 31 rfl;simp -dsimp only[go_sem,seval,he,hd,km,List.map_cons,List.map_nil,List.getD_cons_zero,List.getD_cons_succ,List.getD_nil]
       ·have km:=key 63 rfl;simp -dsimp only[go_sem,seval,he,hd,km,List.map_cons,List.map_nil,List.getD_cons_zero,List.getD_cons_succ,List.getD_nil]
       ·have km:=key 127 rfl;simp -dsimp only[go_sem,seval,he,hd,km,List.map_cons,List.map_nil,List.getD_cons_zero,List.getD_cons_succ,List.getD_nil]
       ·have km:=key 255 rfl;simp -dsimp only[go_sem,seval,he,hd,km,List.map_cons,List.map_nil,List.getD_cons_zero,List.getD_cons_succ,List.getD_nil]
      ·have Ew:=hk a (by simp);have Kv:=AJ (a.ev old now) (by simp);have Do:=hk b (by simp);have LD:=AJ (b.ev old now) (by simp);have hd:=zhH e.op (a.ev old now) (b.ev old now) 0 Ao (by omega) (by omega) (by omega);have CD:=CD (by simp only[List.map_cons,List.getD_cons_zero];omega);rw[<- CD];clear CD;refine zaD ?_;simp -dsimp only[go_sem,seval,he,Ew];refine zaD ?_;simp -dsimp only[go_sem,seval,he,Do];refine zaD ?_
       generalize e.w=w at *
       rcases zdR hw with rfl | rfl | rfl | rfl | rfl | rfl | rfl | rfl
       ·have km:=key 1 rfl;simp -dsimp only[go_sem,seval,he,hd,km,List.map_cons,List.map_nil,List.getD_cons_zero,List.getD_cons_succ,List.getD_nil]
       ·have km:=key 3 rfl;simp -dsimp only[go_sem,seval,he,hd,km,List.map_cons,List.map_nil,List.getD_cons_zero,List.getD_cons_succ,List.getD_nil]
       ·have km:=key 7 rfl;simp -dsimp only[go_sem,seval,he,hd,km,List.map_cons,List.map_nil,List.getD_cons_zero,List.getD_cons_succ,List.getD_nil]
       ·have km:=key 15 rfl;simp -dsimp only[go_sem,seval,he,hd,km,List.map_cons,List.map_nil,List.getD_cons_zero,List.getD_cons_succ,List.getD_nil]
       ·have km:=key 31 rfl;simp -dsimp only[go_sem,seval,he,hd,km,List.map_cons,List.map_nil,List.getD_cons_zero,List.getD_cons_succ,List.getD_nil]
       ·have km:=key 63 rfl;simp -dsimp only[go_sem,seval,he,hd,km,List.map_cons,List.map_nil,List.getD_cons_zero,List.getD_cons_succ,List.getD_nil]
       ·have km:=key 127 rfl;simp -dsimp only[go_sem,seval,he,hd,km,List.map_cons,List.map_nil,List.getD_cons_zero,List.getD_cons_succ,List.getD_nil]
       ·have km:=key 255 rfl;simp -dsimp only[go_sem,seval,he,hd,km,List.map_cons,List.map_nil,List.getD_cons_zero,List.getD_cons_succ,List.getD_nil]
      ·have Ew:=hk a (by simp);have Kv:=AJ (a.ev old now) (by simp);have Do:=hk b (by simp);have LD:=AJ (b.ev old now) (by simp);have DO:=hk c (by simp);have RM:=AJ (c.ev old now) (by simp);have hd:=zhH e.op (a.ev old now) (b.ev old now) (c.ev old now) Ao (by omega) (by omega) (by omega);have CD:=CD (by simp only[List.map_cons,List.getD_cons_zero];omega);rw[<- CD];clear CD;refine zaD ?_;simp -dsimp only[go_sem,seval,he,Ew];refine zaD ?_;simp -dsimp only[go_sem,seval,he,Do];refine zaD ?_;simp -dsimp only[go_sem,seval,he,DO];refine zaD ?_
       generalize e.w=w at *
       rcases zdR hw with rfl | rfl | rfl | rfl | rfl | rfl | rfl | rfl
       ·have km:=key 1 rfl;simp -dsimp only[go_sem,seval,he,hd,km,List.map_cons,List.map_nil,List.getD_cons_zero,List.getD_cons_succ,List.getD_nil]
       ·have km:=key 3 rfl;simp -dsimp only[go_sem,seval,he,hd,km,List.map_cons,List.map_nil,List.getD_cons_zero,List.getD_cons_succ,List.getD_nil]
       ·have km:=key 7 rfl;simp -dsimp only[go_sem,seval,he,hd,km,List.map_cons,List.map_nil,List.getD_cons_zero,List.getD_cons_succ,List.getD_nil]
       ·have km:=key 15 rfl;simp -dsimp only[go_sem,seval,he,hd,km,List.map_cons,List.map_nil,List.getD_cons_zero,List.getD_cons_succ,List.getD_nil]
       ·have km:=key 31 rfl;simp -dsimp only[go_sem,seval,he,hd,km,List.map_cons,List.map_nil,List.getD_cons_zero,List.getD_cons_succ,List.getD_nil]
       ·have km:=key 63 rfl;simp -dsimp only[go_sem,seval,he,hd,km,List.map_cons,List.map_nil,List.getD_cons_zero,List.getD_cons_succ,List.getD_nil]
       ·have km:=key 127 rfl;simp -dsimp only[go_sem,seval,he,hd,km,List.map_cons,List.map_nil,List.getD_cons_zero,List.getD_cons_succ,List.getD_nil]
       ·have km:=key 255 rfl;simp -dsimp only[go_sem,seval,he,hd,km,List.map_cons,List.map_nil,List.getD_cons_zero,List.getD_cons_succ,List.getD_nil]
      ·exfalso;simp at D9
end Rg
end
section
namespace Rg
open Go
theorem zd4 (e:Expr) (old now:List Int):Den Γ G 27 [(.agg [.t (ti (e).op),.t (ti (e).w),.t (ti (e).n),.t (.sl ((e).kids.map (Expr.enc)))]),.t (ints old),.t (ints now)]=some (vi (e.eval old now)):=by
 (refine zag Γ27 rfl ?_;dsimp only[f27])
 have h1:=zeo e
 by_cases hf:e.formed=true
 ·have h2:=zp2 old now 40 e (zcp hf);simp -dsimp only[go_sem,seval,h1,h2,hf];simp[Expr.eval,hf]
 ·have hf:e.formed=false:=by simpa using hf
  simp -dsimp only[go_sem,seval,h1,hf];simp[Expr.eval,hf]
def inR (i n:Int):Bool:=decide (0<=i/\i<n)
def Expr.absent (e:Expr):Bool:=decide (e.op=0/\e.w=0/\e.n=0/\e.kids=[])
def Expr.one (e:Expr):Bool:=decide (e.op=1/\e.w=1/\e.n=1/\e.kids=[])
def zc0 (l:List Int):Bool:=(List.range (l.length-1)).all fun i=>decide (l.getD i 0<l.getD (i+1) 0)
def zfN (b:ByteArray) (i:Nat):Bool:=match b[i]? with
 | some c=>decide (33<=c.toNat/\c.toNat<=126)
 | none=>false
def zbA (b:ByteArray):Bool:=decide (1<=b.size/\b.size<=64)&&(List.range b.size).all (zfN b)
namespace Expr
mutual
def lv:Expr->List Expr
 | .mk o w n []=>[.mk o w n []]
 | .mk o w n (k::ks)=>lv k++lvs ks
def lvs:List Expr->List Expr
 | []=>[]
 | e::r=>lv e++lvs r
end
theorem zvO: ∀l:List Expr,lvs l=l.flatMap lv
 | []=>rfl
 | e::r=>by rw[lvs,zvO r];rfl
theorem lv_eq (e:Expr):lv e=if e.kids=[]then [e]else e.kids.flatMap lv:=by
 obtain⟨o,w,n,ks⟩:=e
 cases ks with
 | nil=>simp[lv,Expr.kids]
 | cons k ks=>simp[lv,zvO,Expr.kids]
end Expr
def Sh (h:Nat->Option O) (v:V) (e:Expr):Prop:=
 v= .t (.ip [ti e.op,ti e.w,ti e.n,.sl (e.kids.map Expr.enc)])\/
 ∃k fz,v= .mp k 0 0/\h k=some (.rows 4 [[.t (ti e.op),.t (ti e.w),.t (ti e.n),.t (.sl (e.kids.map Expr.enc))]] fz)
theorem zkJ {σ:Type} (g:Nat) (cp:List V) (I:σ->(Nat->Option O)->Prop) (step:σ->Expr->σ) (lc:Expr->Bool)
 (Fe: ∀s h n v x,I s h->x.kids=[]->lc x=true->Sh h v x-> ∃r h' n',DenR Γ G g (v::cp) h n=some (r,h',n')/\I (step s x) h'):
 ∀(e:Expr) (v:V) (s:σ) (h:Nat->Option O) (n:Nat),e.allE (fun x=>lc x&&decide (x.kids.length<=3))=true->I s h->(∀s h,I s h->Sh h v e)->
  ∃r h' n',DenR Γ G 76 [v,.fn g [] cp] h n=some (r,h',n')/\I (e.lv.foldl step s) h':=by
 intro e
 induction e using Expr.ind with
 | _ e ih=>
 intro v s H n Aa hI hv;have DX:=Expr.allE_self Aa;simp only[zF,decide_eq_true_eq]at DX
 (refine zay Γ76 rfl ?_;dsimp only[f76])
 by_cases hk:e.kids=[]
 ·have Bo:=hv s H hI;have F8:e.lv=[e]:=by rw[Expr.lv_eq,if_pos hk]
  rw[F8];have hS: ∀n,∃r h' n',DenR Γ G g (v::cp) H n=some (r,h',n')/\I (step s e) h':=fun n=>Fe s H n v e hI hk DX.1 Bo
  rcases Bo with rfl | ⟨k,fz,rfl,AB⟩
  ·simp only[hk,List.map_nil]at hS;simp -dsimp only[go_sem,seval,hk];refine zas (hS _) ?_;intro r h' n' FX;simp -dsimp only[go_sem,seval,hk];refine zaD ?_;simp -dsimp only[go_sem,seval];exact FX
  ·simp -dsimp only[go_sem,seval,hk,AB];refine zas (hS _) ?_;intro r h' n' FX;have:=hv _ _ FX;rcases this with h0 | ⟨k',fz',h0,J6⟩
   ·cases h0
   ·cases h0;simp -dsimp only[go_sem,seval,hk,J6];refine zaD ?_;simp -dsimp only[go_sem,seval];exact FX
 ·have F8:e.lv=e.kids.flatMap Expr.lv:=by rw[Expr.lv_eq,if_neg hk]
  have CB: ¬e.kids.length=0:=by simpa using hk
  have I0: ¬(e.kids.length:Int)=0:=by omega
  rw[F8];have CX: ∀i,i=e.kids.length->(e.kids.take i).flatMap Expr.lv=e.kids.flatMap Expr.lv:=by rintro i rfl;rw[List.take_length]
  rcases hv s H hI with rfl | ⟨k,fz,rfl,AB⟩
  ·simp -dsimp only[go_sem,seval,I0];refine zaq 2146959376 e.kids.length (fun i f hh x=>(f 19).v=vi i/\I (((e.kids.take i).flatMap Expr.lv).foldl step s) hh) rfl ⟨by simp -dsimp only[go_sem,seval],by simpa using hI⟩ ?_;rintro i f u hh x bs hi ⟨EZ,FX⟩;have BF:=zan i (by omega);simp -dsimp only[go_sem,seval,EZ];refine zac (fun h=> ?_) (fun h=> ?_)<;>(try simp only[zah]at h)<;>(try simp -dsimp only[go_sem,seval, *])
   ·obtain⟨y,hy,hm⟩:=zai ‹i<e.kids.length›;simp -dsimp only[go_sem,seval,EZ,hy];refine zas (ih y hm _ _ _ _ (Expr.allE_kid Aa hm) FX (fun _ _ _=> .inl rfl)) ?_;intro r h' n' IG;simp -dsimp only[go_sem,seval,EZ];refine⟨by omega,by simp -dsimp only[go_sem,seval,BF],?_⟩;rw[zaf hy,List.flatMap_append,List.foldl_append];simpa using IG
   ·rw[CX i (by omega)]at FX;exact FX
  ·simp -dsimp only[go_sem,seval,I0,AB];refine zaq 2146959376 e.kids.length (fun i f hh x=>(f 19).v=vi i/\I (((e.kids.take i).flatMap Expr.lv).foldl step s) hh) rfl ⟨by simp -dsimp only[go_sem,seval],by simpa using hI⟩ ?_;rintro i f u hh x bs hi ⟨EZ,FX⟩;have BF:=zan i (by omega)
   have J5: ∃fz',hh k=some (.rows 4 [[.t (ti e.op),.t (ti e.w),.t (ti e.n),.t (.sl (e.kids.map Expr.enc))]] fz'):=by
    rcases hv _ _ FX with h0 | ⟨k',fz',h0,J6⟩
    ·cases h0
    ·cases h0;exact⟨fz',J6⟩
   obtain⟨fz',J5⟩:=J5;simp -dsimp only[go_sem,seval,EZ];refine zac (fun h=> ?_) (fun h=> ?_)<;>(try simp only[zah]at h)<;>(try simp -dsimp only[go_sem,seval, *])
   ·obtain⟨y,hy,hm⟩:=zai ‹i<e.kids.length›;simp -dsimp only[go_sem,seval,EZ,hy,J5];refine zas (ih y hm _ _ _ _ (Expr.allE_kid Aa hm) FX (fun _ _ _=> .inl rfl)) ?_;intro r h' n' IG;simp -dsimp only[go_sem,seval,EZ];refine⟨by omega,by simp -dsimp only[go_sem,seval,BF],?_⟩;rw[zaf hy,List.flatMap_append,List.foldl_append];simpa using IG
   ·rw[CX i (by omega)]at FX;exact FX
end Rg
end
