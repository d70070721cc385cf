/- Part of the proof of the laws of the package relyguardlaw36: an abstract machine for the program's functions, what they compute, and that the machine is the program's. No condition. (RgY2 R7s H06 H06b) -/
import Derived.Test.YtaiokglcgiemnaaGreatDoorPartAU
import Derived.Stop.Joined
import Derived.ProofKit
import Derived.LaidMore
import Derived.Test.YtaiokglcgiemnaaGreatDoorPartAR
import Derived.Test.YtaiokglcgiemnaaGreatDoorPartAS
import Derived.Test.YtaiokglcgiemnaaGreatDoorPartAQ
set_option linter.unusedSimpArgs false
set_option linter.unusedVariables false
section
namespace Rg
open Go
section
variable {Γ:Nat->Option F} {G:Nat->List T}
variable (G) in
def fillPS (sl:Nat->Slot):List V->List (Nat×Nat×Opd)->Option (List V)
 | cs,[]=>some cs
 | cs,(off,k,x)::r=>ob (evlS G sl x) (fun v=>ob v.cells (fun new=>if new.length=k then ob (wr cs off new) (fun cs'=>fillPS sl cs' r) ⟨0⟩else none) ⟨0⟩) ⟨0⟩
@[go_sem ↓]theorem fillPS_nil (sl:Nat->Slot) (cs:List V):fillPS G sl cs []=some cs:=rfl
@[go_sem ↓]theorem fillPS_cons (sl:Nat->Slot) (cs:List V) (off k:Nat) (x:Opd) (r:List (Nat×Nat×Opd)):
 fillPS G sl cs ((off,k,x)::r)=ob (evlS G sl x) (fun v=>ob v.cells (fun new=>if new.length=k then ob (wr cs off new) (fun cs'=>fillPS G sl cs' r) ⟨0⟩else none) ⟨0⟩) ⟨0⟩:=rfl
theorem fillPS_eq (sl:Nat->Slot) (u:Nat->Bool) (h:Nat->Option O) (n b:Nat): ∀(r:List (Nat×Nat×Opd)) (cs:List V),fillParts G cs (M.st ⟨sl,u,h,n,b⟩) r=fillPS G sl cs r
 | [],cs=>rfl
 | (off,k,x)::r,cs=>by
   rw[fillParts,fillPS_cons,evl_eq]
   simp only[ob,Option.bind_eq_bind]
   congr 1;funext v;congr 1;funext new
   split
   ·congr 1;funext cs';exact fillPS_eq sl u h n b r cs'
   ·rfl
variable (G) in
def fillRS (sl:Nat->Slot) (sz:Nat):List (List V)->List (Nat×Opd)->Option (List (List V))
 | rs,[]=>some rs
 | rs,(i,x)::r=>ob (evlS G sl x) (fun v=>ob v.cells (fun new=>if new.length=sz/\i<rs.length then fillRS sl sz (rs.set i new) r else none) ⟨0⟩) ⟨0⟩
@[go_sem ↓]theorem fillRS_nil (sl:Nat->Slot) (sz:Nat) (rs:List (List V)):fillRS G sl sz rs []=some rs:=rfl
@[go_sem ↓]theorem fillRS_cons (sl:Nat->Slot) (sz:Nat) (rs:List (List V)) (i:Nat) (x:Opd) (r:List (Nat×Opd)):
 fillRS G sl sz rs ((i,x)::r)=ob (evlS G sl x) (fun v=>ob v.cells (fun new=>if new.length=sz/\i<rs.length then fillRS G sl sz (rs.set i new) r else none) ⟨0⟩) ⟨0⟩:=rfl
theorem fillRS_eq (sl:Nat->Slot) (u:Nat->Bool) (h:Nat->Option O) (n b sz:Nat): ∀(r:List (Nat×Opd)) (rs:List (List V)),fillRows G rs sz (M.st ⟨sl,u,h,n,b⟩) r=fillRS G sl sz rs r
 | [],rs=>rfl
 | (i,x)::r,rs=>by
   rw[fillRows,fillRS_cons,evl_eq]
   simp only[ob,Option.bind_eq_bind]
   congr 1;funext v;congr 1;funext new
   split
   ·exact fillRS_eq sl u h n b sz r _
   ·rfl
variable (G) in
def evoS (sl:Nat->Slot) (d:Nat):Option Opd->Option Int
 | none=>some d
 | some x=>ob (evlS G sl x) intS ⟨0⟩
@[go_sem ↓]theorem evoS_n (sl:Nat->Slot) (d:Nat):evoS G sl d none=some (d:Int):=rfl
@[go_sem ↓]theorem evoS_s (sl:Nat->Slot) (d:Nat) (x:Opd):evoS G sl d (some x)=ob (evlS G sl x) intS ⟨0⟩:=rfl
theorem evoS_eq (sl:Nat->Slot) (u:Nat->Bool) (h:Nat->Option O) (n b d:Nat) (x:Option Opd):evOpt G (M.st ⟨sl,u,h,n,b⟩) d x=evoS G sl d x:=by
 cases x with
 | none=>rfl
 | some x=>simp only[evOpt,evInt_eq,evoS,ob]
def sliceX (h:Nat->Option O) (sz:Nat) (lo hi:Int):V->Option V
 | .ms k i _=>match h k with
   | some (.rows sz' rs _)=>if sz'=sz/\0<=lo/\lo<=hi/\(i:Int)+hi<=rs.length then some (.ms k (i+lo.toNat) (hi-lo).toNat)else none
   | _=>none
 | _=>none
def sliceS (h:Nat->Option O) (sz n:Nat) (lo hi:Int) (v:V):Option V:=
 if 0<=lo/\lo<=hi/\hi<=n then
  match v with
  | .t .nils=>some (.t .nils)
  | .t (.sl es)=>if es.all (·.length=sz)then some (.t (.sl ((es.drop lo.toNat).take (hi-lo).toNat)))else none
  | .ms k i _=>match h k with
    | some (.rows sz' _ _)=>if sz'=sz then some (.ms k (i+lo.toNat) (hi-lo).toNat)else none
    | _=>none
  | _=>none
 else sliceX h sz lo hi v
def strS:V->Option ByteArray
 | .t (.str b)=>some b
 | _=>none
attribute [go_sem] sliceS strS slice3
variable (d:Bool) (p:Nat) (l:List ROp) (Q:M->Prop) (sl:Nat->Slot) (u:Nat->Bool) (h:Nat->Option O) (n b:Nat)
@[go_sem ↓]theorem y_build (t:Nat) (z:List V) (ps:List (Nat×Nat×Opd)) (w:W4 _ _ _ _):
 wO Γ G d p (⟨none,some t,.build z ps⟩::l) Q ⟨sl,u,h,n,b⟩ w=putV (u t) (ob (fillPS G sl z ps) (fun cs=>some (.agg cs)) ⟨0⟩) (fun v=>wO Γ G d (p+1) l Q ⟨updC sl t ⟨v,none,none⟩,u,h,n,b⟩ ⟨0⟩) ⟨0⟩:=by
 refine wO_val rfl ?_
 simp only[aeval,fillPS_eq,ob]
 cases fillPS G sl z ps<;>rfl
@[go_sem ↓]theorem y_slice (t:Nat) (sz:Nat) (x:Opd) (lo hi:Option Opd) (w:W4 _ _ _ _):
 wO Γ G d p (⟨none,some t,.slice sz x lo hi none⟩::l) Q ⟨sl,u,h,n,b⟩ w=putV (u t) (ob (evlS G sl x) (fun v=>ob (lenS h v) (fun k=>ob (evoS G sl k hi) (fun hi'=>ob (evoS G sl 0 lo) (fun lo'=>sliceS h sz k lo' hi' v) ⟨0⟩) ⟨0⟩) ⟨0⟩) ⟨0⟩) (fun v=>wO Γ G d (p+1) l Q ⟨updC sl t ⟨v,none,none⟩,u,h,n,b⟩ ⟨0⟩) ⟨0⟩:=by
 refine wO_val rfl ?_
 simp only[aeval,evl_eq,ob,lenOf_eq,evoS_eq]
 cases evlS G sl x with
 | none=>rfl
 | some v=>
   simp only[Option.bind_eq_bind,Option.bind_some]
   cases lenS h v with
   | none=>rfl
   | some k=>
     simp only[Option.bind_some]
     cases evoS G sl k hi with
     | none=>rfl
     | some hi'=>
       simp only[Option.bind_some]
       cases evoS G sl 0 lo with
       | none=>rfl
       | some lo'=>
         simp only[Option.bind_some,sliceS]
         split
         ·cases v with
          | t x=>cases x with
            | sl es=>simp only;split<;>rfl
            | _=>rfl
          | ms q i j=>
            simp only[M.st]
            cases h q with
            | none=>rfl
            | some o=>cases o with
              | rows s rs z=>simp only;split<;>rfl
              | _=>rfl
          | _=>rfl
         ·cases v with
          | ms q i j=>
            simp only[M.st,sliceX]
            cases h q with
            | none=>rfl
            | some o=>cases o with
              | rows s rs z=>simp only;split<;>rfl
              | _=>rfl
          | _=>rfl
attribute [go_sem] mkfnV trees
@[go_sem ↓]theorem y_mkfn (t:Nat) (f:Nat) (x y:List Opd) (w:W4 _ _ _ _):
 wO Γ G d p (⟨none,some t,.mkfn f x y⟩::l) Q ⟨sl,u,h,n,b⟩ w=putV (u t) (ob (evlsS G sl x) (fun a=>ob (evlsS G sl y) (fun c=>mkfnV f a c) ⟨0⟩) ⟨0⟩) (fun v=>wO Γ G d (p+1) l Q ⟨updC sl t ⟨v,none,none⟩,u,h,n,b⟩ ⟨0⟩) ⟨0⟩:=by
 refine wO_val rfl ?_
 simp only[aeval,evls_eq,ob]
 cases evlsS G sl x with
 | none=>rfl
 | some a=>
   simp only[Option.bind_eq_bind,Option.bind_some]
   cases evlsS G sl y with
   | none=>rfl
   | some c=>simp only[Option.bind_some];(cases mkfnV f a c<;>rfl)
@[go_sem ↓]theorem y_allocH (t:Nat) (cs:List V) (w:W4 _ _ _ _):
 wO Γ G d p (⟨none,some t,.allocH cs⟩::l) Q ⟨sl,u,h,n,b⟩ w=putA (u t) (some (V.mp (b+p) 0 0,[(b+p,O.rows cs.length [cs] false)])) (fun v hp=>wO Γ G d (p+1) l Q ⟨updC sl t ⟨v,none,none⟩,u,hpC h hp,n,b⟩ ⟨0⟩) ⟨0⟩:=by
 refine wO_hp rfl ?_
 rfl
@[go_sem ↓]theorem y_boxH (t:Nat) (k:Nat) (x:Opd) (w:W4 _ _ _ _):
 wO Γ G d p (⟨none,some t,.boxH k x⟩::l) Q ⟨sl,u,h,n,b⟩ w=putA (u t) (ob (evlS G sl x) (fun v=>ob v.cells (fun cs=>if cs.length=k then some (V.mp (b+p) 0 0,[(b+p,O.rows k [cs] false)])else none) ⟨0⟩) ⟨0⟩) (fun v hp=>wO Γ G d (p+1) l Q ⟨updC sl t ⟨v,none,none⟩,u,hpC h hp,n,b⟩ ⟨0⟩) ⟨0⟩:=by
 refine wO_hp rfl ?_
 simp only[aeval,evl_eq,ob]
 cases evlS G sl x with
 | none=>rfl
 | some v=>
   simp only[Option.bind_eq_bind,Option.bind_some]
   cases v.cells with
   | none=>rfl
   | some cs=>simp only[Option.bind_some];split<;>rfl
@[go_sem ↓]theorem y_bslice (t:Nat) (sz len:Nat) (z:List V) (ps:List (Nat×Opd)) (w:W4 _ _ _ _):
 wO Γ G d p (⟨none,some t,.bslice sz len z ps⟩::l) Q ⟨sl,u,h,n,b⟩ w=putA (u t) (ob (fillRS G sl sz (List.replicate len z) ps) (fun rs=>some (V.ms (b+p) 0 len,[(b+p,O.rows sz rs false)])) ⟨0⟩) (fun v hp=>wO Γ G d (p+1) l Q ⟨updC sl t ⟨v,none,none⟩,u,hpC h hp,n,b⟩ ⟨0⟩) ⟨0⟩:=by
 refine wO_hp rfl ?_
 simp only[aeval,fillRS_eq,ob]
 cases fillRS G sl sz (List.replicate len z) ps<;>rfl
def storeS (h:Nat->Option O) (k:Nat) (new:List V):V->Option (V×List (Nat×O))
 | .mp q i off=>match h q with
   | some (.rows sz rs false)=>(rs[i]?).bind fun row=>if new.length=k then(wr row off new).bind fun row'=>some (V.undef,[(q,O.rows sz (rs.set i row') false)])else none
   | _=>none
 | _=>none
def appS (h:Nat->Option O) (q:Nat) (sz bytes:Nat) (u:V) (a b:List (List V)):Option (V×List (Nat×O)):=
 if(a.length+b.length<=2^32/\bytes<=2^12)/\b.all (·.length=sz)/\a.all (·.length=sz)then
  if b.isEmpty then some (u,[])
  else match u with
   | .t .nils=>some (.ms q 0 b.length,[(q,.rows sz b false)])
   | .t (.slc _)=>((a++b).mapM trees).bind fun ts=>some (.t (.sl ts),[])
   | .ms k i _=>match h k with
     | some (.rows sz' rs false)=>if sz'=sz/\i=0 then some (.ms q 0 (a.length+b.length),[(k,.dead),(q,.rows sz (appRows a b rs) false)])else none
     | _=>none
   | _=>none
 else none
@[go_sem]theorem appRows_self {α:Type} (a b:List α):appRows a b a=a++b:=if_pos (Nat.le_add_right _ _)
def copyS (h:Nat->Option O) (sz:Nat) (b:List (List V)):V->Option (V×List (Nat×O))
 | .t .nils=>some (.t (.int .i64 0),[])
 | .ms k i len=>match h k with
   | some (.rows sz' rs false)=>if sz'=sz/\b.all (·.length=sz)then(wr rs i (b.take len)).bind fun rs'=>some (.t (.int .i64 (min b.length len:Nat)),[(k,.rows sz rs' false)])else none
   | _=>none
 | _=>none
def mapS (h:Nat->Option O):V->Option (List (T×V))
 | .t .nilm=>some []
 | .mm j=>match h j with
   | some (.map es)=>some es
   | _=>none
 | _=>none
def mapupS (h:Nat->Option O) (key:T) (x:V):V->Option (V×List (Nat×O))
 | .mm j=>match h j with
   | some (.map es)=>(mapPut key x es).bind fun es'=>if x.one then some (V.undef,[(j,.map es')])else none
   | _=>none
 | _=>none
attribute [go_sem] storeS copyS mapS mapupS
@[go_sem ↓]theorem y_store (k:Nat) (a x:Opd) (w:W4 _ _ _ _):
 wO Γ G d p (⟨none,none,.store k a x⟩::l) Q ⟨sl,u,h,n,b⟩ w=putA false (ob (evlS G sl a) (fun q=>ob (evlS G sl x) (fun v=>ob v.cells (fun new=>storeS h k new q) ⟨0⟩) ⟨0⟩) ⟨0⟩) (fun _ hp=>wO Γ G d (p+1) l Q ⟨sl,u,hpC h hp,n,b⟩ ⟨0⟩) ⟨0⟩:=by
 refine wO_hpn rfl ?_
 simp only[aeval,evl_eq,ob]
 cases evlS G sl a with
 | none=>rfl
 | some q=>
   simp only[Option.bind_eq_bind,Option.bind_some]
   cases hx:evlS G sl x with
   | none=>
     cases q with
     | mp j i off=>
       simp only[M.st,Option.bind_none]
       cases h j with
       | none=>rfl
       | some o=>cases o with
         | rows sz rs z=>cases z with
           | false=>simp only;cases rs[i]? <;>rfl
           | true=>rfl
         | _=>rfl
     | _=>rfl
   | some v=>
     simp only[Option.bind_some]
     cases hc:v.cells with
     | none=>
       cases q with
       | mp j i off=>
         simp only[M.st,Option.bind_none]
         cases h j with
         | none=>rfl
         | some o=>cases o with
           | rows sz rs z=>cases z with
             | false=>simp only;cases rs[i]? <;>rfl
             | true=>rfl
           | _=>rfl
       | _=>rfl
     | some new=>
       cases q with
       | mp j i off=>
         simp only[M.st,Option.bind_some,storeS]
         cases h j with
         | none=>rfl
         | some o=>cases o with
           | rows sz rs z=>cases z with
             | false=>
               simp only
               cases rs[i]? with
               | none=>rfl
               | some row=>
                 simp only[Option.bind_some]
                 split
                 ·cases wr row off new<;>rfl
                 ·rfl
             | true=>rfl
           | _=>rfl
       | _=>rfl
def appzS (sz bytes:Nat) (z:List V) (k:Nat) (v:V) (m:Int):Option (V×List (Nat×O)):=match v with
 | .t .nils=>if 1<=m/\m<=2^32/\bytes<=2^12/\z.length=sz then some (V.ms k 0 m.toNat,[(k,O.rows sz (List.replicate m.toNat z) false)])else none
 | _=>none
@[go_sem]theorem appzS_n (sz bytes:Nat) (z:List V) (k:Nat) (m:Int):appzS sz bytes z k (.t .nils) m=if 1<=m/\m<=2^32/\bytes<=2^12/\z.length=sz then some (V.ms k 0 m.toNat,[(k,O.rows sz (List.replicate m.toNat z) false)])else none:=rfl
@[go_sem ↓]theorem y_appz (t:Nat) (sz bytes:Nat) (z:List V) (x y:Opd) (w:W4 _ _ _ _):
 wO Γ G d p (⟨none,some t,.appz sz bytes z x y⟩::l) Q ⟨sl,u,h,n,b⟩ w=putA (u t) (ob (evlS G sl y) (fun v'=>ob (intS v') (fun m=>ob (evlS G sl x) (fun v=>appzS sz bytes z (b+p) v m) ⟨0⟩) ⟨0⟩) ⟨0⟩) (fun v hp=>wO Γ G d (p+1) l Q ⟨updC sl t ⟨v,none,none⟩,u,hpC h hp,n,b⟩ ⟨0⟩) ⟨0⟩:=by
 refine wO_hp rfl ?_
 simp only[aeval,evInt_eq,evl_eq,ob]
 cases evlS G sl y with
 | none=>rfl
 | some v'=>
   simp only[Option.bind_eq_bind,Option.bind_some]
   cases intS v' with
   | none=>rfl
   | some m=>
     simp only[Option.bind_some]
     cases evlS G sl x with
     | none=>rfl
     | some v=>cases v with
       | t x=>cases x<;>first | rfl | (simp only[Option.bind_some,appzS];split<;>rfl)
       | _=>rfl
@[go_sem ↓]theorem y_mkslice (t:Nat) (sz bytes:Nat) (z:List V) (x y:Opd) (w:W4 _ _ _ _):
 wO Γ G d p (⟨none,some t,.mkslice sz bytes z x y⟩::l) Q ⟨sl,u,h,n,b⟩ w=putA (u t) (ob (evlS G sl x) (fun v=>ob (intS v) (fun k=>ob (evlS G sl y) (fun v'=>ob (intS v') (fun m=>if 0<=k/\k<=m/\m<=2^32/\bytes<=2^12/\z.length=sz then some (V.ms (b+p) 0 k.toNat,[(b+p,O.rows sz (List.replicate k.toNat z) false)])else none) ⟨0⟩) ⟨0⟩) ⟨0⟩) ⟨0⟩) (fun v hp=>wO Γ G d (p+1) l Q ⟨updC sl t ⟨v,none,none⟩,u,hpC h hp,n,b⟩ ⟨0⟩) ⟨0⟩:=by
 refine wO_hp rfl ?_
 simp only[aeval,evInt_eq,ob]
 cases evlS G sl x with
 | none=>rfl
 | some v=>
   simp only[Option.bind_eq_bind,Option.bind_some]
   cases intS v with
   | none=>rfl
   | some k=>
     simp only[Option.bind_some]
     cases evlS G sl y with
     | none=>rfl
     | some v'=>
       simp only[Option.bind_some]
       cases intS v' with
       | none=>rfl
       | some m=>simp only[Option.bind_some];split<;>rfl
@[go_sem ↓]theorem y_append (t:Nat) (sz bytes:Nat) (x y:Opd) (w:W4 _ _ _ _):
 wO Γ G d p (⟨none,some t,.append sz bytes x y⟩::l) Q ⟨sl,u,h,n,b⟩ w=putA (u t) (ob (evlS G sl x) (fun v=>ob (evlS G sl y) (fun v'=>ob (rowsS h v) (fun a=>ob (rowsS h v') (fun c=>appS h (b+p) sz bytes v a c) ⟨0⟩) ⟨0⟩) ⟨0⟩) ⟨0⟩) (fun v hp=>wO Γ G d (p+1) l Q ⟨updC sl t ⟨v,none,none⟩,u,hpC h hp,n,b⟩ ⟨0⟩) ⟨0⟩:=by
 refine wO_hp rfl ?_
 simp only[aeval,evl_eq,ob,rowsOf_eq]
 cases evlS G sl x with
 | none=>rfl
 | some v=>
   simp only[Option.bind_eq_bind,Option.bind_some]
   cases evlS G sl y with
   | none=>rfl
   | some v'=>
     simp only[Option.bind_some]
     cases rowsS h v with
     | none=>rfl
     | some a=>
       simp only[Option.bind_some]
       cases rowsS h v' with
       | none=>rfl
       | some c=>
         simp only[Option.bind_some,appS]
         split
         ·split
          ·rfl
          ·cases v with
           | t z=>cases z<;>first | rfl | (cases List.mapM trees (a++c)<;>rfl)
           | ms k i j=>
             simp only[M.st]
             cases h k with
             | none=>rfl
             | some o=>cases o with
               | rows s rs z=>cases z with
                 | false=>simp only;split<;>rfl
                 | true=>rfl
               | _=>rfl
           | _=>rfl
         ·rfl
def mkfnTS (h:Nat->Option O) (f:Nat):V->Option (V×List (Nat×O))
 | .mp k i off=>match h k with
   | some (.rows sz [row] _)=>if i=0/\off=0 then(trees row).bind fun ts=>some (.t (.fn f [] [.ip ts]),[(k,.rows sz [row] true)])else none
   | _=>none
 | _=>none
attribute [go_sem] mkfnTS
@[go_sem ↓]theorem y_mkmap (t:Nat)  (w:W4 _ _ _ _):
 wO Γ G d p (⟨none,some t,.mkmap⟩::l) Q ⟨sl,u,h,n,b⟩ w=putA (u t) (some (V.mm (b+p),[(b+p,O.map [])])) (fun v hp=>wO Γ G d (p+1) l Q ⟨updC sl t ⟨v,none,none⟩,u,hpC h hp,n,b⟩ ⟨0⟩) ⟨0⟩:=by
 refine wO_hp rfl ?_
 rfl
@[go_sem ↓]theorem y_lookup (t:Nat) (kd:Nat) (z:V) (ok:Bool) (x y:Opd) (w:W4 _ _ _ _):
 wO Γ G d p (⟨none,some t,.lookup kd z ok x y⟩::l) Q ⟨sl,u,h,n,b⟩ w=putV (u t) (ob (evlS G sl y) (fun k=>ob (keyOf kd k) (fun key=>ob (evlS G sl x) (fun v=>ob (mapS h v) (fun es=>ob (mapFind key es) (fun r=>some (if ok then V.tup [r.getD z,.t (.bool r.isSome)]else r.getD z)) ⟨0⟩) ⟨0⟩) ⟨0⟩) ⟨0⟩) ⟨0⟩) (fun v=>wO Γ G d (p+1) l Q ⟨updC sl t ⟨v,none,none⟩,u,h,n,b⟩ ⟨0⟩) ⟨0⟩:=by
 refine wO_val rfl ?_
 simp only[aeval,evl_eq,ob]
 cases evlS G sl y with
 | none=>rfl
 | some k=>
   simp only[Option.bind_eq_bind,Option.bind_some]
   cases keyOf kd k with
   | none=>rfl
   | some key=>
     simp only[Option.bind_some]
     cases evlS G sl x with
     | none=>rfl
     | some v=>
       simp only[Option.bind_some]
       cases v with
       | mm j=>
         simp only[mapS,M.st]
         cases h j with
         | none=>rfl
         | some o=>cases o with
           | map es=>
             simp only[Option.bind_some]
             cases mapFind key es with
             | none=>rfl
             | some r=>cases ok<;>rfl
           | _=>rfl
       | t q=>cases q with
         | nilm=>cases ok<;>rfl
         | _=>rfl
       | _=>rfl
@[go_sem ↓]theorem y_mapupd (kd:Nat) (x y z:Opd) (w:W4 _ _ _ _):
 wO Γ G d p (⟨none,none,.mapupd kd x y z⟩::l) Q ⟨sl,u,h,n,b⟩ w=putA false (ob (evlS G sl y) (fun k=>ob (keyOf kd k) (fun key=>ob (evlS G sl z) (fun r=>ob (evlS G sl x) (mapupS h key r) ⟨0⟩) ⟨0⟩) ⟨0⟩) ⟨0⟩) (fun _ hp=>wO Γ G d (p+1) l Q ⟨sl,u,hpC h hp,n,b⟩ ⟨0⟩) ⟨0⟩:=by
 refine wO_hpn rfl ?_
 simp only[aeval,evl_eq,ob]
 cases evlS G sl y with
 | none=>rfl
 | some k=>
   simp only[Option.bind_eq_bind,Option.bind_some]
   cases keyOf kd k with
   | none=>rfl
   | some key=>
     simp only[Option.bind_some]
     cases evlS G sl z with
     | none=>rfl
     | some r=>
       simp only[Option.bind_some]
       cases evlS G sl x with
       | none=>rfl
       | some v=>
         simp only[Option.bind_some]
         cases v with
         | mm j=>
           simp only[M.st,mapupS]
           cases h j with
           | none=>rfl
           | some o=>cases o with
             | map es=>
               simp only
               cases mapPut key r es with
               | none=>rfl
               | some es'=>simp only[Option.bind_some];split<;>rfl
             | _=>rfl
         | _=>rfl
def callV (d us:Bool) (h:Nat->Option O) (g:Nat) (vs:List V) (o:Option (List V)) (K:V->(Nat->Option O)->Prop) (_:WK K):Prop:=match o with
 | none=>False
 | some rs=>match Den Γ G g rs with
   | none=>False
   | some r=>us=false/\if r.scalar then K r h else(d=true->vs.flatMap (reach1 h)=[])/\K r (hpC h (freezes h (vs.flatMap (reach1 h))))
def denS (o:Option V) (d:Bool) (h:Nat->Option O) (vs:List V) (K:V->(Nat->Option O)->Prop) (_:WK K):Prop:=match o with
 | none=>False
 | some r=>if r.scalar then K r h else(d=true->vs.flatMap (reach1 h)=[])/\K r (hpC h (freezes h (vs.flatMap (reach1 h))))
@[go_sem]theorem callV_den (d:Bool) (h:Nat->Option O) (g:Nat) (vs rs:List V) (K:V->(Nat->Option O)->Prop) (w:WK K):
 callV (Γ:=Γ) (G:=G) d false h g vs (some rs) K w=denS (Den Γ G g rs) d h vs K ⟨0⟩:=by
 simp only[callV,denS]
 cases Den Γ G g rs with
 | none=>rfl
 | some r=>simp
@[go_sem]theorem denS_int (k:IntKind) (n:Int) (d:Bool) (h:Nat->Option O) (vs:List V) (K:V->(Nat->Option O)->Prop) (w:WK K):denS (some (.t (.int k n))) d h vs K w=K (.t (.int k n)) h:=by
 simp[denS,V.scalar,V.scalar2,V.scalar1,T.scalar]
@[go_sem]theorem denS_bool (x:Bool) (d:Bool) (h:Nat->Option O) (vs:List V) (K:V->(Nat->Option O)->Prop) (w:WK K):denS (some (.t (.bool x))) d h vs K w=K (.t (.bool x)) h:=by
 simp[denS,V.scalar,V.scalar2,V.scalar1,T.scalar]
@[go_sem]theorem denS_tree (r:V) (d:Bool) (h:Nat->Option O) (vs:List V) (K:V->(Nat->Option O)->Prop) (w:WK K) (ht:vs.all V.tree=true):
 denS (some r) d h vs K w=K r h:=by
 have hr:vs.flatMap (reach1 h)=[]:=by
  simp only[List.flatMap_eq_nil_iff]
  intro v hv
  exact reach_tree (List.all_eq_true.1 ht v hv)
 simp[denS,hr,freezes,hpC_nil]
def callK (K:List V->Prop) (_:WK K) (o:Option (List V)):Prop:=match o with
 | none=>False
 | some vs=>K vs
@[go_sem]theorem callK_some (vs:List V) (K:List V->Prop) (w:WK K):callK K w (some vs)=K vs:=rfl
theorem putP_eq {d:Bool} {t:Nat} {l:List ROp} {p:Nat} {Q:M->Prop} {sl:Nat->Slot} {u:Nat->Bool} {h:Nat->Option O} {n b g:Nat} {vs:List V}:
 callP Γ G d ⟨sl,u,h,n,b⟩ (some t) g vs (fun m'=>wpO Γ G d (p+1) l m' Q)=
  callV (Γ:=Γ) (G:=G) d (u t) h g vs (vs.mapM (toT1 h)) (fun r h'=>wO Γ G d (p+1) l Q ⟨updC sl t ⟨r,none,none⟩,u,h',n,b⟩ ⟨0⟩) ⟨0⟩:=by
 rw[updC_eq (α:=Slot)]
 rw[r_callP]
 simp only[callV,M.free,Bool.and_true,wO,wpOo_eq,hpC_eq]
 cases vs.mapM (toT1 h)with
 | none=>simp
 | some rs=>
   simp only
   cases Den Γ G g rs with
   | none=>simp
   | some r=>
     simp only[putP,M.apply,setBox,hpUpd,Bool.not_eq_true']
@[go_sem ↓]theorem y_call (t g:Nat) (args:List Opd) (w:W4 _ _ _ _):
 wO Γ G d p (⟨none,some t,.call false (.c (.t (.fn g [] []))) args⟩::l) Q ⟨sl,u,h,n,b⟩ w=
  callK (fun vs=>callV (Γ:=Γ) (G:=G) d (u t) h g vs (vs.mapM (toT1 h)) (fun r h'=>wO Γ G d (p+1) l Q ⟨updC sl t ⟨r,none,none⟩,u,h',n,b⟩ ⟨0⟩) ⟨0⟩) ⟨0⟩ (evlsS G sl args):=by
 unfold wO
 rw[wpOo_eq]
 rw[r_wpO_cons]
 simp only[stepO,evl,Option.bind_some,fnOf,List.map_nil,evls_eq]
 cases evlsS G sl args with
 | none=>rfl
 | some vs=>
   simp only[callK,List.nil_append,List.append_nil,Bool.false_eq_true,if_false]
   have e:=putP_eq (Γ:=Γ) (G:=G) (d:=d) (t:=t) (l:=l) (p:=p) (Q:=Q) (sl:=sl) (u:=u) (h:=h) (n:=n) (b:=b) (g:=g) (vs:=vs)
   unfold wO at e
   rw[wpOo_eq]at e
   exact e
def fnK (o:Option V) (K:Nat->List V->List V->Prop) (_:WK K):Prop:=match o with
 | none=>False
 | some v=>match fnOf v with
   | none=>False
   | some (g,a,c)=>K g a c
@[go_sem]theorem fnK_t (g:Nat) (a c:List T) (K:Nat->List V->List V->Prop) (w:WK K):fnK (some (.t (.fn g a c))) K w=K g (a.map V.t) (c.map V.t):=rfl
@[go_sem ↓]theorem y_calls (t x:Nat) (args:List Opd) (w:W4 _ _ _ _):
 wO Γ G d p (⟨none,some t,.call false (.s x) args⟩::l) Q ⟨sl,u,h,n,b⟩ w=
  fnK (evlS G sl (.s x)) (fun g a c=>callK (fun vs=>callV (Γ:=Γ) (G:=G) d (u t) h g (a++vs++c) ((a++vs++c).mapM (toT1 h)) (fun r h'=>wO Γ G d (p+1) l Q ⟨updC sl t ⟨r,none,none⟩,u,h',n,b⟩ ⟨0⟩) ⟨0⟩) ⟨0⟩ (evlsS G sl args)) ⟨0⟩:=by
 unfold wO
 rw[wpOo_eq]
 rw[r_wpO_cons]
 simp only[stepO,evl_eq,evls_eq]
 cases evlS G sl (.s x)with
 | none=>cases evlsS G sl args<;>rfl
 | some v=>
   simp only[Option.bind_some,fnK]
   cases fnOf v with
   | none=>
     simp only
     cases evlsS G sl args with
     | none=>rfl
     | some vs=>
       simp only[Bool.false_eq_true,false_and]
       split<;>rfl
   | some q=>
     obtain⟨g,a,c⟩:=q
     simp only
     cases evlsS G sl args with
     | none=>rfl
     | some vs=>
       simp only[callK,Bool.false_eq_true,if_false]
       have e:=putP_eq (Γ:=Γ) (G:=G) (d:=d) (t:=t) (l:=l) (p:=p) (Q:=Q) (sl:=sl) (u:=u) (h:=h) (n:=n) (b:=b) (g:=g) (vs:=a++vs++c)
       unfold wO at e
       rw[wpOo_eq]at e
       exact e
def rawK (us:Bool) (o:Option (V×(Nat->Option O)×Nat)) (K:V->(Nat->Option O)->Nat->Prop) (_:WK K):Prop:=match o with
 | none=>False
 | some (r,h,n)=>us=false/\K r h n
theorem callR_eq {d:Bool} {t:Nat} {l:List ROp} {p:Nat} {Q:M->Prop} {sl:Nat->Slot} {u:Nat->Bool} {h:Nat->Option O} {n b g:Nat} {vs:List V}:
 callR Γ G ⟨sl,u,h,n,b⟩ (some t) g vs (fun m'=>wpO Γ G d (p+1) l m' Q)=
  rawK (u t) (DenR Γ G g vs h n) (fun r h' n'=>wO Γ G d (p+1) l Q ⟨updC sl t ⟨r,none,none⟩,u,h',n',b⟩ ⟨0⟩) ⟨0⟩:=by
 (try rw[updC_eq (α:=Slot)])
 rw[r_callR]
 simp only[rawK,M.free,Bool.and_true,wO,wpOo_eq]
 cases DenR Γ G g vs h n with
 | none=>simp
 | some q=>
   obtain⟨r,h',n'⟩:=q
   simp only[M.apply,setBox,hpUpd,Bool.not_eq_true']
@[go_sem ↓]theorem y_rcall (t g:Nat) (args:List Opd) (w:W4 _ _ _ _):
 wO Γ G d p (⟨none,some t,.call true (.c (.t (.fn g [] []))) args⟩::l) Q ⟨sl,u,h,n,b⟩ w=
  callK (fun vs=>rawK (u t) (DenR Γ G g vs h n) (fun r h' n'=>wO Γ G d (p+1) l Q ⟨updC sl t ⟨r,none,none⟩,u,h',n',b⟩ ⟨0⟩) ⟨0⟩) ⟨0⟩ (evlsS G sl args):=by
 unfold wO
 rw[wpOo_eq]
 rw[r_wpO_cons]
 simp only[stepO,evl,Option.bind_some,fnOf,List.map_nil,evls_eq]
 cases evlsS G sl args with
 | none=>rfl
 | some vs=>
   simp only[callK,List.nil_append,List.append_nil,if_true]
   have e:=callR_eq (Γ:=Γ) (G:=G) (d:=d) (t:=t) (l:=l) (p:=p) (Q:=Q) (sl:=sl) (u:=u) (h:=h) (n:=n) (b:=b) (g:=g) (vs:=vs)
   unfold wO at e
   rw[wpOo_eq]at e
   exact e
def fnY (o:Option V) (K:Nat->List V->List V->Prop) (Y:Nat->Prop) (_:WK K) (_:WK Y):Prop:=match o with
 | none=>False
 | some v=>match fnOf v with
   | some (g,a,c)=>K g a c
   | none=>match yldOf v with
     | some k=>Y k
     | none=>False
@[go_sem]theorem fnY_v (g:Nat) (a c:List V) (K:Nat->List V->List V->Prop) (Y:Nat->Prop) (w:WK K) (w':WK Y):fnY (some (.fn g a c)) K Y w w'=K g a c:=rfl
theorem callY_eq {d:Bool} {t:Nat} {l:List ROp} {p:Nat} {Q:M->Prop} {sl:Nat->Slot} {u:Nat->Bool} {h:Nat->Option O} {n b k:Nat} {vs:List V}:
 callY Γ G ⟨sl,u,h,n,b⟩ (some t) k vs (fun m'=>wpO Γ G d (p+1) l m' Q)=
  rawK (u t) (DenY Γ G k vs h n) (fun r h' n'=>wO Γ G d (p+1) l Q ⟨updC sl t ⟨r,none,none⟩,u,h',n',b⟩ ⟨0⟩) ⟨0⟩:=by
 (try rw[updC_eq (α:=Slot)])
 rw[r_callY]
 simp only[rawK,M.free,Bool.and_true,wO,wpOo_eq]
 cases DenY Γ G k vs h n with
 | none=>simp
 | some q=>
   obtain⟨r,h',n'⟩:=q
   simp only[M.apply,setBox,hpUpd,Bool.not_eq_true']
def freK (us:Bool) (h:Nat->Option O) (key g:Nat) (vs:List V) (K:V->List (Nat×O)->Prop) (_:WK K):Prop:=
 us=false/\vs.flatMap (reach1 h)=[]/\ ∃rs,vs.mapM (toT1 h)=some rs/\ ∃r h' n',DenR Γ G g rs (fun _=>none) 0=some (r,h',n')/\ ∃e,ownR key r h'=some e/\K e.val e.hp
@[go_sem ↓]theorem y_fcall (t g:Nat) (args:List Opd) (w:W4 _ _ _ _):
 wO Γ G d p (⟨none,some t,.fcall (.c (.t (.fn g [] []))) args⟩::l) Q ⟨sl,u,h,n,b⟩ w=
  callK (fun vs=>freK (Γ:=Γ) (G:=G) (u t) h (b+p) g vs (fun v hp=>wO Γ G d (p+1) l Q ⟨updC sl t ⟨v,none,none⟩,u,hpC h hp,n,b⟩ ⟨0⟩) ⟨0⟩) ⟨0⟩ (evlsS G sl args):=by
 unfold wO
 rw[wpOo_eq]
 rw[r_wpO_cons]
 simp only[stepO,evl,Option.bind_some,fnOf,List.map_nil,evls_eq]
 cases evlsS G sl args with
 | none=>rfl
 | some vs=>
   simp only[callK,List.nil_append,List.append_nil,callF,freK,M.free,Bool.and_true,Bool.not_eq_true']
   apply propext
   constructor
   ·rintro⟨h1,h2,rs,h3,r,h',n',h4,_,e,h5,h6⟩
    refine⟨h1,h2,rs,h3,r,h',n',denR_iff.2 h4,e,h5,?_⟩
    obtain⟨s1,s2,s3⟩:=ownR_shape h5
    rw[updC_eq,hpC_eq]
    simpa[M.apply,setBox,s1,s2,s3]using h6
   ·rintro⟨h1,h2,rs,h3,r,h',n',h4,e,h5,h6⟩
    refine⟨h1,h2,rs,h3,r,h',n',denR_iff.1 h4,RC_fn (denR_iff.1 h4),e,h5,?_⟩
    obtain⟨s1,s2,s3⟩:=ownR_shape h5
    rw[updC_eq,hpC_eq]at h6
    simpa[M.apply,setBox,s1,s2,s3]using h6
@[go_sem ↓]theorem y_rcalls (t x:Nat) (args:List Opd) (w:W4 _ _ _ _):
 wO Γ G d p (⟨none,some t,.call true (.s x) args⟩::l) Q ⟨sl,u,h,n,b⟩ w=
  fnY (evlS G sl (.s x)) (fun g a c=>callK (fun vs=>rawK (u t) (DenR Γ G g (a++vs++c) h n) (fun r h' n'=>wO Γ G d (p+1) l Q ⟨updC sl t ⟨r,none,none⟩,u,h',n',b⟩ ⟨0⟩) ⟨0⟩) ⟨0⟩ (evlsS G sl args))
   (fun k=>callK (fun vs=>rawK (u t) (DenY Γ G k vs h n) (fun r h' n'=>wO Γ G d (p+1) l Q ⟨updC sl t ⟨r,none,none⟩,u,h',n',b⟩ ⟨0⟩) ⟨0⟩) ⟨0⟩ (evlsS G sl args)) ⟨0⟩ ⟨0⟩:=by
 unfold wO
 rw[wpOo_eq]
 rw[r_wpO_cons]
 simp only[stepO,evl_eq,evls_eq]
 cases evlS G sl (.s x)with
 | none=>cases evlsS G sl args<;>rfl
 | some v=>
   simp only[Option.bind_some,fnY]
   cases fnOf v with
   | none=>
     simp only
     cases yldOf v with
     | none=>cases evlsS G sl args<;>rfl
     | some k=>
       simp only
       cases evlsS G sl args with
       | none=>rfl
       | some vs=>
         simp only[callK,true_and]
         have e:=callY_eq (Γ:=Γ) (G:=G) (d:=d) (t:=t) (l:=l) (p:=p) (Q:=Q) (sl:=sl) (u:=u) (h:=h) (n:=n) (b:=b) (k:=k) (vs:=vs)
         unfold wO at e
         rw[wpOo_eq]at e
         exact e
   | some q=>
     obtain⟨g,a,c⟩:=q
     simp only
     cases evlsS G sl args with
     | none=>rfl
     | some vs=>
       simp only[callK,if_true]
       have e:=callR_eq (Γ:=Γ) (G:=G) (d:=d) (t:=t) (l:=l) (p:=p) (Q:=Q) (sl:=sl) (u:=u) (h:=h) (n:=n) (b:=b) (g:=g) (vs:=a++vs++c)
       unfold wO at e
       rw[wpOo_eq]at e
       exact e
def resVal:V->Option V
 | .undef=>none
 | .lb=>none
 | .tup _=>none
 | v=>some v
attribute [go_sem] resVal
theorem res_s (sl:Nat->Slot) (u:Nat->Bool) (h:Nat->Option O) (n b t:Nat):resOf (M.st ⟨sl,u,h,n,b⟩) (.s t)=resVal (sl t).v:=by
 simp only[resOf,M.st];cases(sl t).v<;>rfl
theorem res_l (sl:Nat->Slot) (u:Nat->Bool) (h:Nat->Option O) (n b t:Nat) (ag:Bool) (k:Nat):resOf (M.st ⟨sl,u,h,n,b⟩) (.l t ag k)=ob (sl t).box (fun cs=>ob (rd cs 0 k) (wrapAg ag) ⟨0⟩) ⟨0⟩:=rfl
def one1:List V->V
 | [v]=>v
 | vs=> .tup vs
attribute [go_sem] one1
theorem resOf_any (sl:Nat->Slot) (u u':Nat->Bool) (h:Nat->Option O) (n b n' b':Nat) (r:Res):resOf (M.st ⟨sl,u,h,n,b⟩) r=resOf (M.st ⟨sl,u',h,n',b'⟩) r:=by
 cases r<;>rfl
structure W5 (sl:Nat->Slot) (h:Nat->Option O) (rs:List Res) (acc:List V) (K:V->Prop)where
 n:Nat
def resN (sl:Nat->Slot) (h:Nat->Option O) (rs:List Res) (acc:List V) (K:V->Prop) (_:W5 sl h rs acc K):Prop:=
 match rs.mapM (resOf (M.st ⟨sl,fun _=>false,h,0,0⟩))with
 | none=>False
 | some vs=>K (one1 (acc++vs))
@[go_sem ↓]theorem resN_nil (sl:Nat->Slot) (h:Nat->Option O) (acc:List V) (K:V->Prop) (w:W5 sl h [] acc K):resN sl h [] acc K w=K (one1 acc):=by simp[resN]
theorem resN_cons (sl:Nat->Slot) (h:Nat->Option O) (r:Res) (rs:List Res) (acc:List V) (K:V->Prop) (w:W5 sl h (r::rs) acc K):
 resN sl h (r::rs) acc K w=putV false (resOf (M.st ⟨sl,fun _=>false,h,0,0⟩) r) (fun v=>resN sl h rs (acc++[v]) K ⟨0⟩) ⟨0⟩:=by
 simp only[resN,List.mapM_cons,Option.bind_eq_bind]
 cases resOf (M.st ⟨sl,fun _=>false,h,0,0⟩) r with
 | none=>rfl
 | some v=>
   simp only[Option.bind_some,putV,true_and]
   cases rs.mapM (resOf (M.st ⟨sl,fun _=>false,h,0,0⟩))with
   | none=>rfl
   | some vs=>simp
@[go_sem ↓]theorem resN_s (sl:Nat->Slot) (h:Nat->Option O) (t:Nat) (rs:List Res) (acc:List V) (K:V->Prop) (w:W5 sl h (.s t::rs) acc K):
 resN sl h (.s t::rs) acc K w=putV false (resVal (sl t).v) (fun v=>resN sl h rs (acc++[v]) K ⟨0⟩) ⟨0⟩:=by rw[resN_cons,res_s]
@[go_sem ↓]theorem resN_l (sl:Nat->Slot) (h:Nat->Option O) (t:Nat) (ag:Bool) (k:Nat) (rs:List Res) (acc:List V) (K:V->Prop) (w:W5 sl h (.l t ag k::rs) acc K):
 resN sl h (.l t ag k::rs) acc K w=putV false (ob (sl t).box (fun cs=>ob (rd cs 0 k) (wrapAg ag) ⟨0⟩) ⟨0⟩) (fun v=>resN sl h rs (acc++[v]) K ⟨0⟩) ⟨0⟩:=by rw[resN_cons,res_l]
theorem resAll_eq (sl:Nat->Slot) (u:Nat->Bool) (h:Nat->Option O) (n b:Nat) (rs:List Res) (K:V->Prop):
 (∃v,resAll (M.st ⟨sl,u,h,n,b⟩) rs=some v/\K v)=resN sl h rs [] K ⟨0⟩:=by
 have:resOf (M.st ⟨sl,u,h,n,b⟩)=resOf (M.st ⟨sl,fun _=>false,h,0,0⟩):=funext fun r=>resOf_any sl u _ h n b 0 0 r
 simp only[resAll,this,resN,List.nil_append,Option.bind_eq_bind]
 cases rs.mapM (resOf (M.st ⟨sl,fun _=>false,h,0,0⟩))with
 | none=>simp
 | some vs=>
   simp only[Option.bind_some]
   cases vs with
   | nil=>simp[one1]
   | cons v vs=>cases vs<;>simp[one1]
def Fi (rs:List Res) (r:V) (e:Ex) (m:M):Prop:=Fin rs r e m
@[go_sem ↓]theorem y_finR (rs:List Res) (r:V) (sl:Nat->Slot) (u:Nat->Bool) (h:Nat->Option O) (n b:Nat):Fi rs r .ret ⟨sl,u,h,n,b⟩=resN sl h rs [] (fun v=>reify h v=some r) ⟨0⟩:=by
 rw[Fi,r_finR,resAll_eq]
def FiR (rs:List Res) (P:V->(Nat->Option O)->Nat->Prop) (e:Ex) (m:M):Prop:=FinR rs P e m
@[go_sem ↓]theorem y_finRR (rs:List Res) (P:V->(Nat->Option O)->Nat->Prop) (sl:Nat->Slot) (u:Nat->Bool) (h:Nat->Option O) (n b:Nat):FiR rs P .ret ⟨sl,u,h,n,b⟩=resN sl h rs [] (fun v=>SpN (P v h n) ⟨0⟩) ⟨0⟩:=by
 rw[FiR,r_finRR,<- resAll_eq sl u h n b];rfl
@[go_sem ↓]theorem y_finRN (rs:List Res) (P:V->(Nat->Option O)->Nat->Prop) (sl:Nat->Slot) (u:Nat->Bool) (h:Nat->Option O) (n b:Nat):FiR rs P .normal ⟨sl,u,h,n,b⟩=resN sl h rs [] (fun v=>SpN (P v h n) ⟨0⟩) ⟨0⟩:=by
 rw[FiR,r_finRN,<- resAll_eq sl u h n b];rfl
theorem den_ofY {g:Nat} {args:List V} {fn:F} {r:V} (hg:Γ g=some fn) (hr:fn.raw=false)
 (h:wC Γ G fn.body (qOf Γ G [] (Fi fn.results r)) ⟨slotsC args 0,fun _=>false,fun _=>none,0,0⟩ ⟨0⟩):Den Γ G g args=some r:=den_of hg hr (by unfold wC at h;rw[wpCo_eq,qOf_eq,slotsC_eq]at h;exact h)
theorem denR_ofY {g:Nat} {args:List V} {fn:F} {hp:Nat->Option O} {n:Nat} {P:V->(Nat->Option O)->Nat->Prop} (hg:Γ g=some fn) (hr:fn.raw=true)
 (h:wC Γ G fn.body (qOf Γ G [] (FiR fn.results P)) ⟨slotsC args 0,fun _=>false,hp,n,n⟩ ⟨0⟩): ∃r h' n',DenR Γ G g args hp n=some (r,h',n')/\P r h' n':=denR_of hg hr (by unfold wC at h;rw[wpCo_eq,qOf_eq,slotsC_eq]at h;exact h)
theorem loopY {b:C} {sl:Nat->Slot} {us:Nat->Bool} {nx ba:Nat} {Q:Ex->M->Prop} {w:W3 b Q ⟨sl,us,fun _=>none,nx,ba⟩} (k:Nat) (n:Nat) (Inv:Nat->(Nat->Slot)->Prop) (hW:b.wrIn (bitsOf k)=true) (hH:b.noH=true)
 (h0:Inv 0 sl)
 (h: ∀i f u x bs,i<=n->Inv i f->wC Γ G b (qOf Γ G [] (thenQ (fun m'=>SpN (i<n/\Inv (i+1) m'.sl) ⟨0⟩) Q)) ⟨ovrM k f sl,u,fun _=>none,x,bs⟩ ⟨0⟩):wL Γ G b Q ⟨sl,us,fun _=>none,nx,ba⟩ w:=
 by
  unfold wL;rw[WLo_eq]
  exact loopI _ n Inv hW hH h0 (by unfold ovrM wC at h;rw[ovrC_eq,wpCo_eq,qOf_eq]at h;exact h)
theorem loopYH {b:C} {sl:Nat->Slot} {us:Nat->Bool} {hp:Nat->Option O} {nx ba:Nat} {Q:Ex->M->Prop} {w:W3 b Q ⟨sl,us,hp,nx,ba⟩} (k:Nat) (n:Nat) (Inv:Nat->(Nat->Slot)->(Nat->Option O)->Nat->Prop) (hW:b.wrIn (bitsOf k)=true)
 (h0:Inv 0 sl hp nx)
 (h: ∀i f u h x bs,i<=n->Inv i f h x->wC Γ G b (qOf Γ G [] (thenQ (fun m'=>SpN (i<n/\Inv (i+1) m'.sl m'.heap m'.nxt) ⟨0⟩) Q)) ⟨ovrM k f sl,u,h,x,bs⟩ ⟨0⟩):wL Γ G b Q ⟨sl,us,hp,nx,ba⟩ w:=
 by
  unfold wL;rw[WLo_eq]
  exact loopIH _ n Inv hW h0 (by unfold ovrM wC at h;rw[ovrC_eq,wpCo_eq,qOf_eq]at h;exact h)
@[go_sem ↓]theorem y_spsl (sl:Nat->Slot) (u:Nat->Bool) (h:Nat->Option O) (n b:Nat):(M.mk sl u h n b).sl=sl:=rfl
end
end Rg
namespace Rg
open Go
theorem wL_step {Γ:Nat->Option F} {G:Nat->List T} {b:C} {Q:Ex->M->Prop} {m:M} {w:W3 b Q m} (h:wC Γ G b (qOf Γ G [] (thenQ (fun m'=>wL Γ G b Q m' ⟨0⟩) Q)) m ⟨0⟩):wL Γ G b Q m w:=
 by
  unfold wC at h;rw[wpCo_eq,qOf_eq]at h
  unfold wL at h⊢;rw[WLo_eq]at h⊢
  exact WL_step (W_of h)
end Rg
namespace Rg
open Go
theorem rawK_of {o:Option (V×(Nat->Option O)×Nat)} {P:V->(Nat->Option O)->Nat->Prop} {K:V->(Nat->Option O)->Nat->Prop} {w:WK K}
 (h: ∃r h' n',o=some (r,h',n')/\P r h' n') (hk: ∀r h' n',P r h' n'->K r h' n'):rawK false o K w:=by
 obtain⟨r,h',n',rfl,hp⟩:=h
 exact⟨rfl,hk r h' n' hp⟩
attribute [go_sem] List.isEmpty_cons List.isEmpty_nil List.set_cons_zero List.set_cons_succ Nat.lt_add_one Nat.zero_add Option.isSome_some ne_eq Int.cast_ofNat_Int decide_true decide_false not_false_eq_true not_true_eq_false and_self exists_eq_left' V.t.injEq T.bool.injEq T.int.injEq V.agg.injEq V.tup.injEq List.cons.injEq
theorem bools:(∀(p:Prop) [Decidable p],(decide p=true)=p)/\(∀(p:Prop) [Decidable p],(decide p=false)<-> ¬p)/\(∀(α:Type) [BEq α] [LawfulBEq α] (a b:α),(a==b)=true<->a=b)
 /\(∀(α:Type) [BEq α] [LawfulBEq α] (a b:α),(a != b)=true<->a≠b)/\(∀(α:Type) [BEq α] [LawfulBEq α] (x y:α),(x==y)=false<->x≠y)/\(∀(α:Type) [BEq α] [LawfulBEq α] (a b:α),(a != b)=false<->a=b)
 /\(∀b:Bool,((!b)=true)=(b=false))/\(∀b:Bool,((!b)=false)=(b=true))/\(∀b c:Bool,((!b)=c)=(b= !c))/\((!true)=false)/\((!false)=true)/\(∀(α:Type) (a b:α),(a≠b)= ¬a=b)/\(∀(p:Prop) [Decidable p],¬¬p<->p):=
 ⟨fun _ _=>decide_eq_true_eq,fun _ _=>decide_eq_false_iff_not,fun _ _ _ _ _=>beq_iff_eq,fun _ _ _ _ _=>bne_iff_ne,fun _ _ _ _ _=>beq_eq_false_iff_ne,fun _ _ _ _ _=>bne_eq_false_iff_eq,Bool.not_eq_true',Bool.not_eq_false',
  fun _ _=>by simp,rfl,rfl,fun _ _ _=>rfl,fun _ _=>Decidable.not_not⟩
end Rg
end
section
set_option maxRecDepth 100000
namespace Go.Proofs.YtaiokglcgiemnaaGreatDoor
open Go Rg Go.ChangeShapes Go.WideShapes Go.ChangeAt Go.WideMaps Go.WideElems Go.RowKit
theorem own:ownKnob Tryz.prog.godebug=none:=by kernel_rfl
theorem laidOut:laidOutB Tryz.prog=true:=by kernel_rfl
def ty:Tys:=⟨3,4,9,5,28,46,33,31,81,22,109,100,102,36,35,37,39,25,128,23,132,24,27,107,110,49,51,54⟩
theorem ty_okC:ty.Ok Tryz.prog:=⟨⟨⟨by kernel_rfl,by kernel_rfl,by kernel_rfl,by kernel_rfl,by kernel_rfl,by kernel_rfl,by kernel_rfl,by kernel_rfl,by kernel_rfl,by kernel_rfl,by kernel_rfl,by kernel_rfl,by kernel_rfl,by kernel_rfl,by kernel_rfl,by kernel_rfl,by kernel_rfl,by kernel_rfl,by kernel_rfl,by kernel_rfl,by kernel_rfl,by kernel_rfl⟩,by kernel_rfl⟩,by kernel_rfl,by kernel_rfl,by kernel_rfl,by kernel_rfl,by kernel_rfl⟩
theorem ty_okP:ty.OkP Tryz.prog:=ty_okC.toOkP
theorem ty_ok:ty.Ok0 Tryz.prog:=ty_okP.toOk0
abbrev laid1:List (String×DataW Unit):=Rows.terminationBoundRow.laid
theorem glob_ok {W:World} (h:laidMetH Tryz.prog laid1 W):GlobOK Seat.N (fun r=>r<W.heap.size) W:=by
 intro k j x hx
 match k,hx with
 | 0, hx => exact glob_one (nm := "relyguard/expr.masks") (g := 0) (k := 0) (t := 149) (e := 3) (ls := [.int .i64 0, .int .i64 1, .int .i64 3, .int .i64 7, .int .i64 15, .int .i64 31, .int .i64 63, .int .i64 127, .int .i64 255]) (by kernel_rfl) h (List.mem_of_getElem? (i := 3) rfl) (by kernel_rfl) (by kernel_rfl) (by kernel_rfl) (.inr ⟨.i64, by kernel_rfl⟩) (by kernel_rfl) (by kernel_rfl) rfl rfl j x hx
 | 1,hx=>exact(by have h0:([]:List T)[j]? =some x:=hx;rw[List.getElem?_nil]at h0;cases h0)
 | 2, hx => exact glob_one (nm := "internal/strconv.uint64pow10") (g := 1) (k := 2) (t := 288) (e := 207) (ls := [.int .u64 1, .int .u64 10, .int .u64 100, .int .u64 1000, .int .u64 10000, .int .u64 100000, .int .u64 1000000, .int .u64 10000000, .int .u64 100000000, .int .u64 1000000000, .int .u64 10000000000, .int .u64 100000000000, .int .u64 1000000000000, .int .u64 10000000000000, .int .u64 100000000000000, .int .u64 1000000000000000, .int .u64 10000000000000000, .int .u64 100000000000000000, .int .u64 1000000000000000000, .int .u64 10000000000000000000]) (by kernel_rfl) h (List.mem_of_getElem? (i := 2) rfl) (by kernel_rfl) (by kernel_rfl) (by kernel_rfl) (.inr ⟨.u64, by kernel_rfl⟩) (by kernel_rfl) (by kernel_rfl) rfl rfl j x hx
 | k+3,hx=>exact(by have h0:([]:List T)[j]? =some x:=hx;rw[List.getElem?_nil]at h0;cases h0)
theorem inv:Seat.I.Ok Seat.N:=inv_ok (fun q k h=>by
 split at h
 ·cases h;rename_i hq;exact⟨hq.symm,by intro h;cases h⟩
 ·split at h
  ·cases h;rename_i hq;exact⟨hq.symm,by intro h;cases h⟩
  ·cases h)
theorem table:TableOK Tryz.prog Seat.I Seat.N Rg.Γ:=fun g fn h=>Seat.all (g,fn) (lookup_mem h)
theorem pure_ok {g:Nat} {av:List V} {r:V} (h:Den Rg.Γ Rg.G g av=some r):PureOK Tryz.prog Seat.N g av r:=
 big_sound inv table (by kernel_rfl) (fun _ _ _=>Iff.rfl) (den_iff.1 h)
theorem door_met (os:Os) (args:Array Value):laidMetH Tryz.prog laid1 ((World.doorLaid Tryz.prog 400 os).forCall (fun _ _=>0) ⟨#[],args,[]⟩).memory:=
 laidMetH_of_parts3 (fuel:=8) (laidMet_of_run' 8 (by kernel_rfl) (by kernel_rfl)) (by kernel_rfl) (by kernel_rfl)
end Go.Proofs.YtaiokglcgiemnaaGreatDoor
end
section
namespace Rg
open Go
theorem power_den (n:Int) (hn:n<=62):Den Γ G 33 [vi n]=some (vi (2^n.toNat)):=by
 (refine den_ofY Γ33 rfl ?_;dsimp only[f33])
 simp -dsimp -implicitDefEqProofs only[go_sem,seval]
 refine loopY 4088 n.toNat (fun i f=>(f 4).v=vi i/\(f 3).v=vi (2^i)) rfl rfl ⟨by simp -dsimp -implicitDefEqProofs only[go_sem,seval],by simp -dsimp -implicitDefEqProofs only[go_sem,seval,Int.pow_zero]⟩ ?_
 rintro i f u kk bb hi ⟨h4,h3⟩
 have hw:=wrapS i (by omega)
 simp -dsimp -implicitDefEqProofs only[go_sem,seval,h4,h3,hw]
 refine csplit (fun h=> ?_) (fun h=> ?_)<;>(try simp only[bools]at h)<;>(try simp -dsimp -implicitDefEqProofs only[go_sem,seval,h4,h3,hw, *])
 ·have h2:(2:Int)^i<=2^61:=pow2_le (by omega)
  have h3':=pow2_pos i
  have hp:IntKind.i64.wrap ((2:Int)^i*2)=2^(i+1):=by rw[wrap64 (by omega),Int.pow_succ]
  exact⟨by omega,by simp -dsimp -implicitDefEqProofs only[go_sem,seval],by simp -dsimp -implicitDefEqProofs only[go_sem,seval,hp]⟩
 ·have:i=n.toNat:=by omega
  rw[this]
def arity (op:Int):Int:=
 if 1<=op/\op<=3 then 0 else if op=4 then 1 else if 5<=op/\op<=13 then 2 else if op=14 then 3 else -1
theorem arity_den (op:Int):Den Γ G 116 [vi op]=some (vi (arity op)):=by
 (refine den_ofY Γ116 rfl ?_;dsimp only[f116])
 simp -dsimp -implicitDefEqProofs only[go_sem,seval]
 repeat'(refine csplit (fun h=> ?_) (fun h=> ?_)<;>(try simp only[bools]at h)<;>(try simp -dsimp -implicitDefEqProofs only[go_sem,seval, *]))
 all_goals(unfold arity;grind)
theorem size_den (e:Expr): ∀l:Int,l<2^40->Den Γ G 47 [(.agg [.t (ti (e).op),.t (ti (e).w),.t (ti (e).n),.t (.sl ((e).kids.map (Expr.enc)))]),vi l]=some (vi (if l<=0 then 0 else min (e.size:Int) l)):=by
 induction e using Expr.ind with
 | _ e ih=>
 intro l hl
 have hsz:=Expr.size_eq e
 have hlen:=Expr.len_le_size e.kids
 (refine den_ofY Γ47 rfl ?_;dsimp only[f47])
 simp -dsimp -implicitDefEqProofs only[go_sem,seval]
 refine csplit (fun h=> ?_) (fun h=> ?_)<;>(try simp only[bools]at h)<;>(try simp -dsimp -implicitDefEqProofs only[go_sem,seval, *])
 refine loopY 4294966880 e.kids.length (fun i f=>(f 6).v=vi i/\(f 5).v=vi (min (1+((e.kids.take i).map Expr.size).sum:Nat) l)) rfl rfl ⟨by simp -dsimp -implicitDefEqProofs only[go_sem,seval],by simp -dsimp -implicitDefEqProofs only[go_sem,seval];simp;omega⟩ ?_
 rintro i f u kk bb hi ⟨h6,h5⟩
 have hp:=Expr.take_le_size e.kids i
 have hi':=Expr.len_le_size (e.kids.take i)
 rw[List.length_take,Nat.min_eq_left hi]at hi'
 simp -dsimp -implicitDefEqProofs only[go_sem,seval,h6,h5]
 refine csplit (fun h=> ?_) (fun h=> ?_)<;>(try simp only[bools]at h)<;>(try simp -dsimp -implicitDefEqProofs only[go_sem,seval,h6,h5, *])
 ·refine csplit (fun h=> ?_) (fun h=> ?_)<;>(try simp only[bools]at h)<;>(try simp -dsimp -implicitDefEqProofs only[go_sem,seval,h6,h5, *])
  ·have hw:=wrapS i (by omega)
   obtain⟨x,hx,hm⟩:=get_of ‹i<e.kids.length›
   have ht:=take_succ_of hx
   have hn1:min (((1+((e.kids.take i).map Expr.size).sum:Nat):Int)) l=((1+((e.kids.take i).map Expr.size).sum:Nat):Int):=by omega
   rw[hn1]at h5
   have hw1:IntKind.i64.wrap (l-((1+((e.kids.take i).map Expr.size).sum:Nat):Int))=l-((1+((e.kids.take i).map Expr.size).sum:Nat):Int):=wrap64 (by omega)
   have hd:=ih x hm (l-((1+((e.kids.take i).map Expr.size).sum:Nat):Int)) (by omega)
   simp -dsimp -implicitDefEqProofs only[go_sem,seval,h6,h5,hw,hx,hw1,hd]
   refine⟨by omega,by simp -dsimp -implicitDefEqProofs only[go_sem,seval],?_⟩
   simp -dsimp -implicitDefEqProofs only[go_sem,seval]
   rw[if_neg (by omega),ht,wrap64 (by omega)]
   simp only[List.map_append,List.sum_append,List.map_cons,List.map_nil,List.sum_cons,List.sum_nil]
   omega
  ·omega
 ·have:i=e.kids.length:=by omega
  subst this
  rw[List.take_length];omega
def nodeOk (e:Expr):Bool:=
 if arity e.op≠e.kids.length\/e.w<1\/e.w>8 then false
 else if e.op=1 then decide (0<=e.n/\e.n<2^e.w.toNat)
 else if e.op=2\/e.op=3 then decide (0<=e.n/\e.n<32)
 else if e.op=4 then decide (e.n=0/\e.kw 0=e.w)
 else if e.op=11\/e.op=12\/e.op=13 then decide (e.n=0/\e.w=1/\e.kw 0=e.kw 1)
 else if e.op=14 then decide (e.n=0/\e.kw 0=1/\e.kw 1=e.w/\e.kw 2=e.w)
 else decide (e.n=0/\e.kw 0=e.w/\e.kw 1=e.w)
def Expr.deep:Nat->Expr->Bool
 | 0,_=>false
 | d+1,e=>nodeOk e&&e.kids.all (Expr.deep d)
theorem all_take_succ {α:Type} {l:List α} {i:Nat} {x:α} {p:α->Bool} (h:l[i]? =some x) (h1:(l.take i).all p=true) (h2:p x=true):(l.take (i+1)).all p=true:=by
 rw[take_succ_of h,List.all_append,h1];simp[h2]
theorem all_false_of {α:Type} {l:List α} {x:α} {p:α->Bool} (h:x∈l) (h2:p x=false):l.all p=false:=by
 rw[List.all_eq_false];exact⟨x,h,by simp[h2]⟩
theorem arity_le (op:Int):arity op<=3:=by unfold arity;grind
theorem nodeOk_len {e:Expr} (h:nodeOk e=true):e.kids.length<=3:=by
 have:=arity_le e.op
 unfold nodeOk at h
 split at h
 ·simp at h
 ·rename_i h';simp only[not_or,Decidable.not_not]at h';omega
end Rg
end
section
-- FULL
namespace Rg
open Go
theorem op_cases (op:Int):op=1\/op=2\/op=3\/op=4\/op=5\/op=6\/op=7\/op=8\/op=9\/op=10\/op=11\/op=12\/op=13\/op=14\/(op<1\/14<op):=by omega
theorem arity_bad {op:Int} (h:op<1\/14<op):arity op= -1:=by unfold arity;grind
set_option maxHeartbeats 2000000
theorem node_den (e:Expr):Den Γ G 89 [(.agg [.t (ti (e).op),.t (ti (e).w),.t (ti (e).n),.t (.sl ((e).kids.map (Expr.enc)))])]=some (vb (nodeOk e)):=by
 (refine den_ofY Γ89 rfl ?_;dsimp only[f89])
 obtain⟨op,w,n,ks⟩:=e
 have ha:=arity_den op
 by_cases hk:arity op=(ks.length:Int)
 ·by_cases hw:1<=w/\w<=8
  ·have h1: ¬w<1:=by omega
   have h2: ¬w>8:=by omega
   have hp:=power_den w (by omega)
   rcases op_cases op with rfl | rfl | rfl | rfl | rfl | rfl | rfl | rfl | rfl | rfl | rfl | rfl | rfl | rfl | hop
   rotate_right
   ·rw[arity_bad hop]at hk;omega
   all_goals(
    rcases ks with _ | ⟨a,_ | ⟨b,_ | ⟨c,_ | ⟨d,r⟩⟩⟩⟩
    all_goals(try(exfalso;simp[arity]at hk;(try omega);done))
    all_goals(
     simp -dsimp -implicitDefEqProofs [go_sem,ha,hp,hk,h1,h2,bne_self_eq_false]
     repeat'(refine csplit (fun h=> ?_) (fun h=> ?_)<;>(try simp only[bools]at h)<;>(try simp -dsimp -implicitDefEqProofs [go_sem,hp, *]))
     all_goals(simp only[nodeOk,go_sem,Expr.kw,List.getD_cons_zero,List.getD_cons_succ];grind)))
  ·by_cases h1:w<1
   ·simp -dsimp -implicitDefEqProofs [go_sem,ha,hk,bne_self_eq_false,h1]
    simp only[nodeOk,go_sem];grind
   ·have h2:w>8:=by omega
    simp -dsimp -implicitDefEqProofs [go_sem,ha,hk,bne_self_eq_false,h1,h2]
    simp only[nodeOk,go_sem];grind
 ·have hk':(arity op != (ks.length:Int))=true:=by simpa using hk
  simp -dsimp -implicitDefEqProofs [go_sem,ha,hk']
  simp only[nodeOk,go_sem];grind
end Rg
end
