/- Part of the proof of the laws of the package relyguardlaw30: an abstract machine for the program's functions, what they compute, and that the machine is the program's. No condition. (RgB) -/
import Derived.Test.YtcgkpboneipghaaGreatDoorPartAA
section
namespace Rg
open Go
inductive RepT (w:World) (A:Nat->Prop) (nm:Nat->Nat):Value->T->Prop where
 | int (k:IntKind) (n:Int):RepT w A nm (.int k n) (.int k n)
 | bool (b:Bool):RepT w A nm (.bool b) (.bool b)
 | str (s:ByteArray):RepT w A nm (.string s) (.str s)
 | nilp:RepT w A nm (.pointer none) .nilp
 | nils (a:Option Addr):RepT w A nm (.slice a 0 0) .nils
 | nilm:RepT w A nm (.map none) .nilm
 | nilf:RepT w A nm .nilFunc .nilf
 | nili:RepT w A nm .nilIface .nili
 | sl0 (a:Option Addr) (cap:Nat):RepT w A nm (.slice a 0 cap) (.sl [])
 | sl (r off cap sz:Nat) (es:List (List T)) (vf:Nat->Nat->Value) (h0:0<es.length) (hc:es.length<=cap) (hA:A r)
    (hs : ∀ (i:Nat) (e:List T),es[i]? = some e->e.length=sz)
    (hv : ∀ (i:Nat) (e:List T) (j:Nat) (x:T),es[i]? = some e->e[j]? = some x->w.cell? ⟨r,off+i*sz+j,none⟩=some (vf i j))
    (hr : ∀ (i:Nat) (e:List T) (j:Nat) (x:T),es[i]? = some e->e[j]? = some x->RepT w A nm (vf i j) x) :
    RepT w A nm (.slice (some ⟨r,off,none⟩) es.length cap) (.sl es)
 | ip (r off:Nat) (cs:List T) (vf:Nat->Value) (hA:A r)
    (hv : ∀ (j:Nat) (x:T),cs[j]? = some x->w.cell? ⟨r,off+j,none⟩=some (vf j))
    (hr : ∀ (j:Nat) (x:T),cs[j]? = some x->RepT w A nm (vf j) x) :
    RepT w A nm (.pointer (some ⟨r,off,none⟩)) (.ip cs)
 | fn (f:Nat) (a b:List T) (va vb:Array Value) (fa fb:Nat->Value) (ha:va.size=a.length) (hb:vb.size=b.length)
    (hva : ∀ (j:Nat) (x:T),a[j]? = some x->va[j]? = some (fa j)) (hra : ∀ (j:Nat) (x:T),a[j]? = some x->RepT w A nm (fa j) x)
    (hvb : ∀ (j:Nat) (x:T),b[j]? = some x->vb[j]? = some (fb j)) (hrb : ∀ (j:Nat) (x:T),b[j]? = some x->RepT w A nm (fb j) x) :
    RepT w A nm (.func (.func (nm f)) va vb) (.fn f a b)
 | fa (f:Nat) (c:List T) (vc:Array Value) (fc:Nat->Value) (hc:vc.size=c.length)
    (hvc : ∀ (j:Nat) (x:T),c[j]? = some x->vc[j]? = some (fc j)) (hrc : ∀ (j:Nat) (x:T),c[j]? = some x->RepT w A nm (fc j) x) :
    RepT w A nm (.func (.func (nm f)) #[.agg vc] #[]) (.fa f c)
 | opq (v:Value) (h:v.oneCell' = true):RepT w A nm v .opq
theorem cell?_eq {w w' : World} {r off:Nat} (h:w'.heap[r]? = w.heap[r]?):w'.cell? ⟨r,off,none⟩=w.cell? ⟨r,off,none⟩:=by
 simp only [World.cell?,h]
theorem RepT.mono {w w' : World} {A A' : Nat->Prop} {nm:Nat->Nat} {v:Value} {x:T} (h:RepT w A nm v x)
 (hw : ∀ r,A r->w'.heap[r]? = w.heap[r]?) (hA : ∀ r,A r->A' r):RepT w' A' nm v x:=by
 induction h with
 | int k n=>exact .int k n
 | bool b=>exact .bool b
 | str s=>exact .str s
 | nilp=>exact .nilp
 | nils a=>exact .nils a
 | nilm=>exact .nilm
 | nilf=>exact .nilf
 | nili=>exact .nili
 | sl0 a cap=>exact .sl0 a cap
 | sl r off cap sz es vf h0 hc hAr hs hv _ ih =>
   exact .sl r off cap sz es vf h0 hc (hA r hAr) hs (fun i e j x h1 h2=>by rw [cell?_eq (hw r hAr)]; exact hv i e j x h1 h2) ih
 | ip r off cs vf hAr hv _ ih =>
   exact .ip r off cs vf (hA r hAr) (fun j x h1=>by rw [cell?_eq (hw r hAr)]; exact hv j x h1) ih
 | fn f a b va vb fa fb ha hb hva _ hvb _ iha ihb=>exact .fn f a b va vb fa fb ha hb hva iha hvb ihb
 | fa f c vc fc hc hvc _ ih=>exact .fa f c vc fc hc hvc ih
 | opq v h=>exact .opq v h
theorem RepT.one {w:World} {A:Nat->Prop} {nm:Nat->Nat} {v:Value} {x:T} (h:RepT w A nm v x):v.oneCell' = true:=by
 cases h <;> first | rfl | assumption
theorem RepT.scalar {w w' : World} {A A' : Nat->Prop} {nm:Nat->Nat} {v:Value} {x:T} (h:RepT w A nm v x) (hx:x.scalar=true):RepT w' A' nm v x:=by
 cases h with
 | sl r off cap sz es vf h0 hc hA hs hv hr =>
   cases es with
   | nil=>simp at h0
   | cons e es=>simp [T.scalar] at hx
 | opq _ h=>exact .opq _ h
 | _=>first | (simp [T.scalar] at hx; done) | constructor
theorem RepT.norm {w:World} {A:Nat->Prop} {nm:Nat->Nat} {v:Value} {x:T} (h:RepT w A nm v x):RepT w A nm v x.norm:=by
 cases h with
 | nils a=>exact .sl0 a 0
 | sl0 a cap=>exact .sl0 a cap
 | sl r off cap sz es vf h0 hc hA hs hv hr=>exact .sl r off cap sz es vf h0 hc hA hs hv hr
 | ip r off cs vf hA hv hr=>exact .ip r off cs vf hA hv hr
 | fn f a b va vb fa fb ha hb hva hra hvb hrb=>exact .fn f a b va vb fa fb ha hb hva hra hvb hrb
 | fa f c vc fc hc hvc hrc=>exact .fa f c vc fc hc hvc hrc
 | opq _ h=>exact .opq _ h
 | _=>constructor
def O.live:O->Bool
 | .dead=>false
 | _=>true
inductive RepC (w:World) (A:Nat->Prop) (nm:Nat->Nat) (μ:Nat->Nat) (H:Nat->Option O):Value->V->Prop where
 | t {v:Value} {x:T} (h:RepT w A nm v x):RepC w A nm μ H v (.t x)
 | ms (k i len cap sz:Nat) (rs:List (List V)) (frz:Bool) (a:Option Addr) (hk:H k=some (.rows sz rs frz)) (hi:i+len<=rs.length) (hc:rs.length<=i+cap)
    (ha:cap=0\/(a=some ⟨μ k,i*sz,none⟩ /\ ∃ e n,w.shape? (μ k)=some (e,n)/\(i+cap)*sz<=n)) :
    RepC w A nm μ H (.slice a len cap) (.ms k i len)
 | mp (k i off sz:Nat) (rs:List (List V)) (frz:Bool) (hk:H k=some (.rows sz rs frz)) (hi:i<rs.length) :
    RepC w A nm μ H (.pointer (some ⟨μ k,i*sz+off,none⟩)) (.mp k i off)
 | mb (k:Nat) (x:Bx) (hk:H k=some (.raw x)):RepC w A nm μ H (.pointer (some ⟨μ k,0,none⟩)) (.mp k 0 0)
 | mm (k:Nat) (es:List (T×V)) (hk:H k=some (.map es)):RepC w A nm μ H (.map (some (μ k))) (.mm k)
 | yl (k:Nat) (env:Nat->V) (ps:List Nat) (b:C) (st:LSt) (hk:H k=some (.loop env ps b st)):RepC w A nm μ H (.func (.yield (μ k)) #[] #[]) (.yl k)
 | dyl {v:Value} (k:Nat) (hk:H k=some .dead) (hv:v.oneCell' = true):RepC w A nm μ H v (.yl k)
 | dms {v:Value} (k i len:Nat) (hk:H k=some .dead) (hv:v.oneCell' = true):RepC w A nm μ H v (.ms k i len)
 | dmp {v:Value} (k i off:Nat) (hk:H k=some .dead) (hv:v.oneCell' = true):RepC w A nm μ H v (.mp k i off)
 | dmm {v:Value} (k:Nat) (hk:H k=some .dead) (hv:v.oneCell' = true):RepC w A nm μ H v (.mm k)
 | fn (f:Nat) (a b:List V) (va vb:Array Value) (fa fb:Nat->Value) (ha:va.size=a.length) (hb:vb.size=b.length)
    (hva : ∀ (j:Nat) (x:V),a[j]? = some x->va[j]? = some (fa j)) (hra : ∀ (j:Nat) (x:V),a[j]? = some x->RepC w A nm μ H (fa j) x)
    (hvb : ∀ (j:Nat) (x:V),b[j]? = some x->vb[j]? = some (fb j)) (hrb : ∀ (j:Nat) (x:V),b[j]? = some x->RepC w A nm μ H (fb j) x) :
    RepC w A nm μ H (.func (.func (nm f)) va vb) (.fn f a b)
def Bx.le:Bx->Bx->Prop
 | .buf l, .buf l' => l' = l
 | .buf _,_=>False
 | _, .buf _=>False
 | _,_=>True
theorem Bx.le_refl (x:Bx):Bx.le x x:=by cases x <;> simp [Bx.le]
theorem Bx.le_trans {a b c:Bx} (h1:Bx.le a b) (h2:Bx.le b c):Bx.le a c:=by cases a <;> cases b <;> cases c <;> simp_all [Bx.le]
def O.le:O->O->Prop
 | _, .dead=>True
 | .rows sz rs _, .rows sz' rs' _=>sz' = sz/\rs'.length=rs.length
 | .map _, .map _=>True
 | .loop _ _ _ _, .loop _ _ _ _=>True
 | .raw x, .raw y=>Bx.le x y
 | _,_=>False
theorem O.le_refl (o:O):O.le o o:=by cases o <;> simp [O.le,Bx.le_refl]
theorem O.le_trans {a b c:O} (h1:O.le a b) (h2:O.le b c):O.le a c:=by
 cases a <;> cases b <;> cases c <;> first | exact Bx.le_trans h1 h2 | simp_all [O.le]
structure Evo (w:World) (A:Nat->Prop) (μ:Nat->Nat) (H:Nat->Option O) (w' : World) (A' : Nat->Prop) (μ' : Nat->Nat) (H' : Nat->Option O):Prop where
 blk : ∀ r,A r->w'.heap[r]? = w.heap[r]?
 sub : ∀ r,A r->A' r
 hp : ∀ k o,H k=some o -> ∃ o',H' k=some o' /\ O.le o o' /\ (o'.live=true->μ' k=μ k)
 shp : ∀ r s,w.shape? r=some s->w'.shape? r=some s
theorem Evo.refl (w:World) (A:Nat->Prop) (μ:Nat->Nat) (H:Nat->Option O):Evo w A μ H w A μ H :=
 ⟨fun _ _=>rfl,fun _ h=>h,fun _ o h=>⟨o,h,O.le_refl o,fun _=>rfl⟩,fun _ _ h=>h⟩
theorem RepC.one {w:World} {A:Nat->Prop} {nm μ:Nat->Nat} {H:Nat->Option O} {v:Value} {x:V} (h:RepC w A nm μ H v x):v.oneCell' = true:=by
 cases h <;> first | rfl | assumption | (rename_i h; exact h.one)
theorem RepC.evo {w w' : World} {A A' : Nat->Prop} {nm μ μ' : Nat->Nat} {H H' : Nat->Option O} {v:Value} {x:V} (h:RepC w A nm μ H v x)
 (e:Evo w A μ H w' A' μ' H'):RepC w' A' nm μ' H' v x:=by
 induction h with
 | t h=>exact .t (h.mono e.blk e.sub)
 | ms k i len cap sz rs frz a hk hi hc ha =>
   obtain ⟨o',hk',hle,hmu⟩:=e.hp k _ hk
   cases o' with
   | rows sz' rs' frz' =>
     obtain ⟨rfl,hl⟩:=hle
     refine .ms k i len cap sz' rs' frz' a hk' (by omega) (by omega) ?_
     rcases ha with ha | ⟨rfl,e1,n,hs,hn⟩
     ·exact .inl ha
     ·exact .inr ⟨by rw [hmu rfl],e1,n,by rw [hmu rfl]; exact e.shp _ _ hs,hn⟩
   | map es=>simp [O.le] at hle
   | loop _ _ _ _=>simp [O.le] at hle
   | raw _=>simp [O.le] at hle
   | dead=>exact .dms k i len hk' rfl
 | mp k i off sz rs frz hk hi =>
   obtain ⟨o',hk',hle,hmu⟩:=e.hp k _ hk
   cases o' with
   | rows sz' rs' frz' =>
     obtain ⟨rfl,hl⟩:=hle
     rw [<- hmu rfl]
     exact .mp k i off sz' rs' frz' hk' (by omega)
   | map es=>simp [O.le] at hle
   | loop _ _ _ _=>simp [O.le] at hle
   | raw _=>simp [O.le] at hle
   | dead=>exact .dmp k i off hk' rfl
 | mb k x hk =>
   obtain ⟨o',hk',hle,hmu⟩:=e.hp k _ hk
   cases o' with
   | raw x' => rw [<- hmu rfl]; exact .mb k x' hk'
   | dead=>exact .dmp k 0 0 hk' rfl
   | _=>simp [O.le] at hle
 | mm k es hk =>
   obtain ⟨o',hk',hle,hmu⟩:=e.hp k _ hk
   cases o' with
   | rows sz' rs' frz' => simp [O.le] at hle
   | map es' => rw [<- hmu rfl]; exact .mm k es' hk'
   | loop _ _ _ _=>simp [O.le] at hle
   | raw _=>simp [O.le] at hle
   | dead=>exact .dmm k hk' rfl
 | yl k env ps b st hk =>
   obtain ⟨o',hk',hle,hmu⟩:=e.hp k _ hk
   cases o' with
   | rows sz' rs' frz' => simp [O.le] at hle
   | map es' => simp [O.le] at hle
   | loop env' ps' b' st' => rw [<- hmu rfl]; exact .yl k env' ps' b' st' hk'
   | raw _=>simp [O.le] at hle
   | dead=>exact .dyl k hk' rfl
 | dyl k hk hv =>
   obtain ⟨o',hk',hle,_⟩:=e.hp k _ hk
   cases o' <;> simp [O.le] at hle
   exact .dyl k hk' hv
 | dms k i len hk hv =>
   obtain ⟨o',hk',hle,_⟩:=e.hp k _ hk
   cases o' <;> simp [O.le] at hle
   exact .dms k i len hk' hv
 | dmp k i off hk hv =>
   obtain ⟨o',hk',hle,_⟩:=e.hp k _ hk
   cases o' <;> simp [O.le] at hle
   exact .dmp k i off hk' hv
 | dmm k hk hv =>
   obtain ⟨o',hk',hle,_⟩:=e.hp k _ hk
   cases o' <;> simp [O.le] at hle
   exact .dmm k hk' hv
 | fn f a b va vb fa fb ha hb hva _ hvb _ iha ihb=>exact .fn f a b va vb fa fb ha hb hva iha hvb ihb
def RepL (w:World) (A:Nat->Prop) (nm μ:Nat->Nat) (H:Nat->Option O) (vs:List Value) (cs:List V):Prop :=
 vs.length=cs.length /\ ∀ (i:Nat) (c:V),cs[i]? = some c -> ∃ v,vs[i]? = some v/\RepC w A nm μ H v c
def RepV1 (w:World) (A:Nat->Prop) (nm μ:Nat->Nat) (H:Nat->Option O) (v:Value):V->Prop
 | .agg cs => ∃ vs,v = .agg vs/\RepL w A nm μ H vs.toList cs
 | .tup _=>False
 | .undef=>False
 | .lb=>False
 | c=>RepC w A nm μ H v c
def RepV (w:World) (A:Nat->Prop) (nm μ:Nat->Nat) (H:Nat->Option O) (v:Value):V->Prop
 | .tup cs => ∃ vs,v = .tuple vs/\vs.size=cs.length /\ ∀ (i:Nat) (c:V),cs[i]? = some c -> ∃ u,vs[i]? = some u/\RepV1 w A nm μ H u c
 | .undef=>v=undef
 | .lb=>True
 | c=>RepV1 w A nm μ H v c
section
variable {w w' : World} {A A' : Nat->Prop} {nm μ μ' : Nat->Nat} {H H' : Nat->Option O}
theorem RepL.evo {vs:List Value} {cs:List V} (h:RepL w A nm μ H vs cs) (e:Evo w A μ H w' A' μ' H'):RepL w' A' nm μ' H' vs cs :=
 ⟨h.1,fun i c hi=>let ⟨v,hv,hr⟩:=h.2 i c hi; ⟨v,hv,hr.evo e⟩⟩
theorem RepV1.evo {v:Value} {x:V} (h:RepV1 w A nm μ H v x) (e:Evo w A μ H w' A' μ' H'):RepV1 w' A' nm μ' H' v x:=by
 cases x with
 | agg cs=>obtain ⟨vs,rfl,h⟩:=h; exact ⟨vs,rfl,h.evo e⟩
 | tup cs=>exact h.elim
 | undef=>exact h.elim
 | lb=>exact h.elim
 | _=>exact RepC.evo h e
theorem RepV.evo {v:Value} {x:V} (h:RepV w A nm μ H v x) (e:Evo w A μ H w' A' μ' H'):RepV w' A' nm μ' H' v x:=by
 cases x with
 | tup cs=>obtain ⟨vs,rfl,hl,h⟩:=h; exact ⟨vs,rfl,hl,fun i c hi=>let ⟨u,hu,hr⟩:=h i c hi; ⟨u,hu,hr.evo e⟩⟩
 | undef=>exact h
 | lb=>exact h
 | agg cs=>exact RepV1.evo (x:=.agg cs) h e
 | t x=>exact RepV1.evo (x:=.t x) h e
 | ms k i l=>exact RepV1.evo (x:=.ms k i l) h e
 | mp k i o=>exact RepV1.evo (x:=.mp k i o) h e
 | mm k=>exact RepV1.evo (x:=.mm k) h e
 | yl k=>exact RepV1.evo (x:=.yl k) h e
 | fn f a b=>exact RepV1.evo (x:=.fn f a b) h e
theorem RepV1.toV {v:Value} {x:V} (h:RepV1 w A nm μ H v x):RepV w A nm μ H v x:=by
 cases x <;> first | exact h | exact h.elim
theorem RepC.toV1 {v:Value} {x:V} (h:RepC w A nm μ H v x):RepV1 w A nm μ H v x:=by
 cases h <;> first | exact RepC.t ‹_› | (constructor <;> assumption)
theorem RepC.toV {v:Value} {x:V} (h:RepC w A nm μ H v x):RepV w A nm μ H v x:=h.toV1.toV
theorem RepV.cells {v:Value} {x:V} {cs:List V} (h:RepV w A nm μ H v x) (hc:x.cells=some cs):RepL w A nm μ H v.cells.toList cs:=by
 cases x with
 | agg ds =>
   simp only [V.cells,Option.some.injEq] at hc; subst hc
   obtain ⟨vs,rfl,h⟩:=h
   exact h
 | tup _=>simp [V.cells] at hc
 | undef=>simp [V.cells] at hc
 | lb=>simp [V.cells] at hc
 | t _ | ms _ _ _ | mp _ _ _ | mm _ | yl _ | fn _ _ _ =>
   simp only [V.cells,Option.some.injEq] at hc; subst hc
   have h' : RepC w A nm μ H v _:=h
   have h1:=h'.one
   have hcs:v.cells.toList=[v]:=by cases v <;> simp_all [Value.cells,Value.oneCell']
   rw [hcs]
   refine ⟨rfl,fun i c hi => ?_⟩
   cases i with
   | zero=>simp at hi; subst hi; exact ⟨v,rfl,h'⟩
   | succ i=>simp at hi
end
structure Nam where
 nm:Nat->Nat
 gm:Nat->Nat
 G:Nat->List T
 cr:Code->Nat->C->Prop
 tB:Nat
 tU:Nat
def LSt.rel:LSt->LoopState->Option Code->Prop
 | .ready,st,p=>st = .ready/\p=none
 | .enter,st,_=>st = .ready
 | .busy,st,_=>st = .busy
 | .done .normal,_,_=>False
 | .done (.exit id),st,p=>st = .done/\p=some (.exit id)
 | .done .ret,st,p=>st = .done/\p=some .ret
def BObj (w:World) (tB tU:Nat) (μ:Nat->Nat) (H:Nat->Option O) (r:Nat):Bx->Prop
 | .bld none => ∃ p,w.heap[r]? = some (.cells #[p, .slice none 0 0] tB (0,0))/\(p = .pointer none\/p = .pointer (some ⟨r,0,none⟩))
 | .bld (some g) => ∃ a len cap,w.heap[r]? = some (.cells #[.pointer (some ⟨r,0,none⟩), .slice a len cap] tB (0,0)) /\
    (H g=some .dead \/ ∃ l,H g=some (.raw (.buf l))/\a=some ⟨μ g,0,none⟩/\len=l.length/\w.shape? (μ g)=some (tU,cap))
 | .mid => ∃ p v,w.heap[r]? = some (.cells #[p,v] tB (0,0))
 | .buf l => ∃ cur,w.heap[r]? = some (.cells cur tU (0,0))/\l≠[]/\l.length<=cur.size/\cur.size<=maxLen/\cur.toList.take l.length=l.map fun b=>Value.int .u8 b.toNat
theorem BObj.evo {w w' : World} {A A' : Nat->Prop} {tB tU:Nat} {μ μ' : Nat->Nat} {H H' : Nat->Option O} {r:Nat} {x:Bx} (h:BObj w tB tU μ H r x)
 (e:Evo w A μ H w' A' μ' H') (hr:w'.heap[r]? = w.heap[r]?):BObj w' tB tU μ' H' r x:=by
 match x,h with
 | .bld none,⟨p,h1,h2⟩=>exact ⟨p,by rw [hr]; exact h1,h2⟩
 | .bld (some g),⟨a,len,cap,h1,h2⟩ =>
   refine ⟨a,len,cap,by rw [hr]; exact h1, ?_⟩
   rcases h2 with h2 | ⟨l,h2,h3,h4,h5⟩
   ·obtain ⟨o',g1,g2,_⟩:=e.hp g _ h2
    cases o' <;> simp [O.le] at g2
    exact .inl g1
   ·obtain ⟨o',g1,g2,g3⟩:=e.hp g _ h2
    cases o' with
    | dead=>exact .inl g1
    | raw y =>
      cases y with
      | bld _=>simp [O.le,Bx.le] at g2
      | mid=>simp [O.le,Bx.le] at g2
      | buf l' =>
        simp only [O.le,Bx.le] at g2; subst g2
        exact .inr ⟨l',g1,by rw [g3 rfl]; exact h3,h4,by rw [g3 rfl]; exact e.shp _ _ h5⟩
    | _=>simp [O.le] at g2
 | .mid,⟨p,v,h1⟩=>exact ⟨p,v,by rw [hr]; exact h1⟩
 | .buf l,⟨cur,h1,h2⟩=>exact ⟨cur,by rw [hr]; exact h1,h2⟩
def keyVal1:T->Option Value
 | .int k n=>some (.int k n)
 | .bool b=>some (.bool b)
 | .str s=>some (.string s)
 | _=>none
def keyVals:List T->Option (List Value)
 | []=>some []
 | t::r=>(keyVal1 t).bind fun v=>(keyVals r).map (v :: ·)
def keyVal:T->Option Value
 | .int k n=>some (.int k n)
 | .bool b=>some (.bool b)
 | .str s=>some (.string s)
 | .sl [ts]=>(keyVals ts).map fun l => .agg l.toArray
 | _=>none
def HObj (w:World) (A:Nat->Prop) (N:Nam) (μ:Nat->Nat) (H:Nat->Option O) (r:Nat):O->Prop
 | .rows sz rs frz => ∃ c e z,w.heap[r]? = some (.cells c e z)/\(frz=false->z=(0,0))/\rs.length*sz<=c.size /\
    (∀ (i:Nat) (row:List V),rs[i]? = some row->row.length=sz) /\
    ∀ (i:Nat) (row:List V) (j:Nat) (x:V),rs[i]? = some row->row[j]? = some x -> ∃ v,c[i*sz+j]? = some v/\RepC w A N.nm μ H v x
 | .map es => ∃ (ms:Array MapEntry) (n:Nat),w.heap[r]? = some (.map ms n)/\ms.size=es.length /\
    ∀ (i:Nat) (k:T) (x:V),es[i]? = some (k,x) -> ∃ m,ms[i]? = some m/\keyVal k=some m.key/\RepV1 w A N.nm μ H m.val x
 | .loop env ps b st => ∃ L:Go.Loop,w.heap[r]? = some (.loop L)/\L.params=ps.toArray/\(∃ ca cb,b = .round ca cb/\N.cr L.assign L.tmps.size ca)/\(∃ ca cb,b = .round ca cb/\N.cr L.body L.tmps.size cb)/\st.rel L.state L.pending /\
    (∀ t∈ps,t<L.tmps.size) /\ ∀ t,RepV w A N.nm μ H (L.tmps.getD t undef) (env t)
 | .raw x=>BObj w N.tB N.tU μ H r x
 | .dead=>True
def LObj (w:World) (A:Nat->Prop) (nm μ:Nat->Nat) (H:Nat->Option O) (r:Nat) (cs:List V):Prop :=
 ∃ c e,w.heap[r]? = some (.cells c e (0,0))/\RepL w A nm μ H c.toList cs
def MBH (H:Nat->Option O) (μ:Nat->Nat) (r:Nat):Prop :=
 ∃ k o,H k=some o/\(∀ sz rs,o ≠ .rows sz rs true)/\o.live=true/\μ k=r
def MBL (L:Nat->Option (List V)) (lam:Nat->Nat) (r:Nat):Prop := ∃ t,(L t).isSome=true/\lam t=r
structure Ctx where
 w0:World
 X:Nat->Prop
 A0:Nat->Prop
 H0:Nat->Option O
 μ0:Nat->Nat
def Marks (c:Ctx) (A:Nat->Prop) (w:World) (ds:List Deferred):Prop :=
 ∃ rs:List Nat,rs.Nodup/\ds=rs.map (fun r=>{ target:=.collected r,args := #[] }) /\ ∀ r∈rs,w.heap[r]? = some (Obj.deferred (some [])) /\ ¬ A r/\c.w0.heap.size<=r
theorem Marks.nil (c:Ctx) (A:Nat->Prop) (w:World):Marks c A w []:=⟨[],by simp,rfl,by simp⟩
theorem Marks.evo {c:Ctx} {A A' : Nat->Prop} {w w' : World} {ds:List Deferred} (h:Marks c A w ds) (h1 : ∀ r:Nat,w.heap[r]? = some (Obj.deferred (some []))->w'.heap[r]? = w.heap[r]?)
 (h2 : ∀ r:Nat,w.heap[r]? = some (Obj.deferred (some []))->A' r->A r):Marks c A' w' ds:=by
 obtain ⟨rs,h3,h4,h5⟩:=h
 exact ⟨rs,h3,h4,fun r hr=>let ⟨a,b,d⟩:=h5 r hr; ⟨by rw [h1 r a]; exact a,fun h=>b (h2 r a h),d⟩⟩
theorem Marks.join {c:Ctx} {A A' B:Nat->Prop} {w w' : World} {ds:List Deferred} (h:Marks c A w ds) (h' : Marks c A' w' ds) (hB : ∀ r,B r->w.heap.size<=r):Marks c (fun r=>A' r\/B r) w' ds:=by
 obtain ⟨rs,h1,h2,h3⟩:=h
 obtain ⟨rs',g1,g2,g3⟩:=h'
 have e:rs' = rs:=by
  rw [h2] at g2
  have hinj : ∀ (l l' : List Nat),l.map (fun r=>({ target:=.collected r,args := #[] }:Deferred))=l'.map (fun r=>({ target:=.collected r,args := #[] }:Deferred))->l' = l:=by
   intro l
   induction l with
   | nil=>intro l' h; cases l' with
     | nil=>rfl
     | cons _ _=>simp at h
   | cons x l ih=>intro l' h; cases l' with
     | nil=>simp at h
     | cons y l' =>
       simp only [List.map_cons,List.cons.injEq,Deferred.mk.injEq,Target.collected.injEq,and_true] at h
       rw [h.1,ih l' h.2]
  exact hinj rs rs' g2
 subst e
 refine ⟨rs',g1,g2,fun r hr => ?_⟩
 obtain ⟨a1,a2,a3⟩:=g3 r hr
 refine ⟨a1,fun h => ?_,a3⟩
 rcases h with h | h
 ·exact a2 h
 ·have:=hB r h
  have:=(Array.getElem?_eq_some_iff.1 (h3 r hr).1).1
  omega
structure Rel (N:Nam) (c:Ctx) (ns:Nat) (A:Nat->Prop) (μ lam:Nat->Nat) (s:St) (a:Act) (w:World):Prop where
 size:a.tmps.size=ns
 defers:Marks c A w a.defers
 env : ∀ t,RepV w A N.nm μ s.heap (a.tmps.getD t undef) (s.env t)
 loc : ∀ t cs,s.loc t=some cs->a.tmps.getD t undef = .pointer (some ⟨lam t,0,none⟩)/\LObj w A N.nm μ s.heap (lam t) cs
 adr : ∀ t b o,s.adr t=some (b,o)->s.used b=true/\(s.loc b).isSome=true/\a.tmps.getD t undef = .pointer (some ⟨lam b,o,none⟩)
 heap : ∀ k o,s.heap k=some o->HObj w A N μ s.heap (μ k) o
 hinj : ∀ k k' o o',s.heap k=some o->s.heap k' = some o' -> o.live=true->o'.live=true->μ k=μ k' -> k=k'
 linj : ∀ t t',(s.loc t).isSome=true->(s.loc t').isSome=true->lam t=lam t' -> t=t'
 lh : ∀ t k o,(s.loc t).isSome=true->s.heap k=some o->o.live=true->lam t≠μ k
 aH : ∀ r,A r -> ¬ MBH s.heap μ r
 aL : ∀ r,A r -> ¬ MBL s.loc lam r
 alt : ∀ r,A r->r<w.heap.size
 afz : ∀ k sz rs,s.heap k=some (.rows sz rs true)->A (μ k)
 fresh : ∀ k,s.nxt<=k->s.heap k=none
 glob : ∀ (g j:Nat) (x:T),(N.G g)[j]? = some x->A (N.gm g)/\(∃ e,w.shape? (N.gm g)=some (e,(N.G g).length)) /\ ∃ v,w.cell? ⟨N.gm g,j,none⟩=some v/\RepT w A N.nm v x
 cout:w.os=c.w0.os/\w.output=c.w0.output
 csize:c.w0.heap.size<=w.heap.size
 ckeep : ∀ r,r<c.w0.heap.size -> ¬ c.X r->w.heap[r]? = c.w0.heap[r]?
 cshp : ∀ r x,c.w0.shape? r=some x->w.shape? r=some x
 csub : ∀ r,c.A0 r->A r
 canew : ∀ r,A r->c.A0 r\/c.X r\/c.w0.heap.size<=r
 clive : ∀ r,MBH s.heap μ r->c.X r\/c.w0.heap.size<=r
 cloc : ∀ t,(s.loc t).isSome=true->c.X (lam t)\/c.w0.heap.size<=lam t
 chp : ∀ k o,c.H0 k=some o -> ∃ o',s.heap k=some o' /\ O.le o o' /\ (o'.live=true->μ k=c.μ0 k)
end Rg
end
