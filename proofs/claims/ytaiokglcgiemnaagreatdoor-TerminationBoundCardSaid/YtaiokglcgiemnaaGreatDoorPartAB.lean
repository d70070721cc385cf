/- Part of the proof of the laws of the package relyguardlaw36: an abstract machine for the program's functions, what they compute, and that the machine is the program's. No condition. (RgB RgC) -/
import Derived.Test.YtaiokglcgiemnaaGreatDoorPartAA
import Derived.Laws.CopyRow
section
namespace Rg
open Go
inductive RepT (w:World) (A:Nat->Prop) (nm:Nat->Nat):Value->T->Prop where
 | int (k:IntKind) (n:Int):RepT w A nm (.int k n) (.int k n)
 | bool (b:Bool):RepT w A nm (.bool b) (.bool b)
 | str (s:ByteArray):RepT w A nm (.string s) (.str s)
 | nilp:RepT w A nm (.pointer none) .nilp
 | nils (a:Option Addr):RepT w A nm (.slice a 0 0) .nils
 | nilm:RepT w A nm (.map none) .nilm
 | nilf:RepT w A nm .nilFunc .nilf
 | nili:RepT w A nm .nilIface .nili
 | sl0 (a:Option Addr) (cap:Nat):RepT w A nm (.slice a 0 cap) (.sl [])
 | sl (r off cap sz:Nat) (es:List (List T)) (vf:Nat->Nat->Value) (h0:0<es.length) (hc:es.length<=cap) (hA:A r)
    (hs: ∀(i:Nat) (e:List T),es[i]? =some e->e.length=sz)
    (hv: ∀(i:Nat) (e:List T) (j:Nat) (x:T),es[i]? =some e->e[j]? =some x->w.cell? ⟨r,off+i*sz+j,none⟩=some (vf i j))
    (hr: ∀(i:Nat) (e:List T) (j:Nat) (x:T),es[i]? =some e->e[j]? =some x->RepT w A nm (vf i j) x):
    RepT w A nm (.slice (some ⟨r,off,none⟩) es.length cap) (.sl es)
 | ip (r off:Nat) (cs:List T) (vf:Nat->Value) (hA:A r)
    (hv: ∀(j:Nat) (x:T),cs[j]? =some x->w.cell? ⟨r,off+j,none⟩=some (vf j))
    (hr: ∀(j:Nat) (x:T),cs[j]? =some x->RepT w A nm (vf j) x):
    RepT w A nm (.pointer (some ⟨r,off,none⟩)) (.ip cs)
 | fn (f:Nat) (a b:List T) (va vb:Array Value) (fa fb:Nat->Value) (ha:va.size=a.length) (hb:vb.size=b.length)
    (hva: ∀(j:Nat) (x:T),a[j]? =some x->va[j]? =some (fa j)) (hra: ∀(j:Nat) (x:T),a[j]? =some x->RepT w A nm (fa j) x)
    (hvb: ∀(j:Nat) (x:T),b[j]? =some x->vb[j]? =some (fb j)) (hrb: ∀(j:Nat) (x:T),b[j]? =some x->RepT w A nm (fb j) x):
    RepT w A nm (.func (.func (nm f)) va vb) (.fn f a b)
 | fa (f:Nat) (c:List T) (vc:Array Value) (fc:Nat->Value) (hc:vc.size=c.length)
    (hvc: ∀(j:Nat) (x:T),c[j]? =some x->vc[j]? =some (fc j)) (hrc: ∀(j:Nat) (x:T),c[j]? =some x->RepT w A nm (fc j) x):
    RepT w A nm (.func (.func (nm f)) #[.agg vc] #[]) (.fa f c)
 | opq (v:Value) (h:v.oneCell'=true):RepT w A nm v .opq
 | slc (a:Option Addr) (es:List (List T)) (h:RepT w A nm (.slice a es.length es.length) (.sl es)):RepT w A nm (.slice a es.length es.length) (.slc es)
theorem cell?_eq {w w':World} {r off:Nat} (h:w'.heap[r]? =w.heap[r]?):w'.cell? ⟨r,off,none⟩=w.cell? ⟨r,off,none⟩:=by
 simp only[World.cell?,h]
theorem RepT.mono {w w':World} {A A':Nat->Prop} {nm:Nat->Nat} {v:Value} {x:T} (h:RepT w A nm v x)
 (hw: ∀r,A r->w'.heap[r]? =w.heap[r]?) (hA: ∀r,A r->A' r):RepT w' A' nm v x:=by
 induction h with
 | int k n=>exact .int k n
 | bool b=>exact .bool b
 | str s=>exact .str s
 | nilp=>exact .nilp
 | nils a=>exact .nils a
 | nilm=>exact .nilm
 | nilf=>exact .nilf
 | nili=>exact .nili
 | sl0 a cap=>exact .sl0 a cap
 | sl r off cap sz es vf h0 hc hAr hs hv _ ih=>
   exact .sl r off cap sz es vf h0 hc (hA r hAr) hs (fun i e j x h1 h2=>by rw[cell?_eq (hw r hAr)];exact hv i e j x h1 h2) ih
 | ip r off cs vf hAr hv _ ih=>
   exact .ip r off cs vf (hA r hAr) (fun j x h1=>by rw[cell?_eq (hw r hAr)];exact hv j x h1) ih
 | fn f a b va vb fa fb ha hb hva _ hvb _ iha ihb=>exact .fn f a b va vb fa fb ha hb hva iha hvb ihb
 | fa f c vc fc hc hvc _ ih=>exact .fa f c vc fc hc hvc ih
 | opq v h=>exact .opq v h
 | slc a es _ ih=>exact .slc a es ih
theorem RepT.one {w:World} {A:Nat->Prop} {nm:Nat->Nat} {v:Value} {x:T} (h:RepT w A nm v x):v.oneCell'=true:=by
 cases h<;>first | rfl | assumption
theorem RepT.scalar {w w':World} {A A':Nat->Prop} {nm:Nat->Nat} {v:Value} {x:T} (h:RepT w A nm v x) (hx:x.scalar=true):RepT w' A' nm v x:=by
 cases h with
 | sl r off cap sz es vf h0 hc hA hs hv hr=>
   cases es with
   | nil=>simp at h0
   | cons e es=>simp[T.scalar]at hx
 | opq _ h=>exact .opq _ h
 | _=>first | (simp[T.scalar]at hx;done) | constructor
theorem RepT.norm {w:World} {A:Nat->Prop} {nm:Nat->Nat} {v:Value} {x:T} (h:RepT w A nm v x):RepT w A nm v x.norm:=by
 cases h with
 | nils a=>exact .sl0 a 0
 | sl0 a cap=>exact .sl0 a cap
 | sl r off cap sz es vf h0 hc hA hs hv hr=>exact .sl r off cap sz es vf h0 hc hA hs hv hr
 | ip r off cs vf hA hv hr=>exact .ip r off cs vf hA hv hr
 | fn f a b va vb fa fb ha hb hva hra hvb hrb=>exact .fn f a b va vb fa fb ha hb hva hra hvb hrb
 | fa f c vc fc hc hvc hrc=>exact .fa f c vc fc hc hvc hrc
 | opq _ h=>exact .opq _ h
 | slc a es h=>exact .slc a es h
 | _=>constructor
theorem RepT.slc_inv {w:World} {A:Nat->Prop} {nm:Nat->Nat} {a:Option Addr} {n c:Nat} {es:List (List T)} (h:RepT w A nm (.slice a n c) (.slc es)):n=es.length/\c=es.length:=by
 cases h;exact⟨rfl,rfl⟩
def O.live:O->Bool
 | .dead=>false
 | _=>true
inductive RepC (w:World) (A:Nat->Prop) (nm:Nat->Nat) (μ:Nat->Nat) (H:Nat->Option O):Value->V->Prop where
 | t {v:Value} {x:T} (h:RepT w A nm v x):RepC w A nm μ H v (.t x)
 | ms (k i len cap sz:Nat) (rs:List (List V)) (frz:Bool) (a:Option Addr) (hk:H k=some (.rows sz rs frz)) (hi:i+len<=rs.length) (hc:rs.length<=i+cap)
    (ha:cap=0\/(a=some ⟨μ k,i*sz,none⟩/\ ∃e n,w.shape? (μ k)=some (e,n)/\(i+cap)*sz<=n)):
    RepC w A nm μ H (.slice a len cap) (.ms k i len)
 | mp (k i off sz:Nat) (rs:List (List V)) (frz:Bool) (hk:H k=some (.rows sz rs frz)) (hi:i<rs.length):
    RepC w A nm μ H (.pointer (some ⟨μ k,i*sz+off,none⟩)) (.mp k i off)
 | mb (k:Nat) (x:Bx) (hk:H k=some (.raw x)):RepC w A nm μ H (.pointer (some ⟨μ k,0,none⟩)) (.mp k 0 0)
 | mm (k:Nat) (es:List (T×V)) (hk:H k=some (.map es)):RepC w A nm μ H (.map (some (μ k))) (.mm k)
 | yl (k:Nat) (env:Nat->V) (ps:List Nat) (b:C) (st:LSt) (hk:H k=some (.loop env ps b st)):RepC w A nm μ H (.func (.yield (μ k)) #[] #[]) (.yl k)
 | dyl {v:Value} (k:Nat) (hk:H k=some .dead) (hv:v.oneCell'=true):RepC w A nm μ H v (.yl k)
 | dms {v:Value} (k i len:Nat) (hk:H k=some .dead) (hv:v.oneCell'=true):RepC w A nm μ H v (.ms k i len)
 | dmp {v:Value} (k i off:Nat) (hk:H k=some .dead) (hv:v.oneCell'=true):RepC w A nm μ H v (.mp k i off)
 | dmm {v:Value} (k:Nat) (hk:H k=some .dead) (hv:v.oneCell'=true):RepC w A nm μ H v (.mm k)
 | fn (f:Nat) (a b:List V) (va vb:Array Value) (fa fb:Nat->Value) (ha:va.size=a.length) (hb:vb.size=b.length)
    (hva: ∀(j:Nat) (x:V),a[j]? =some x->va[j]? =some (fa j)) (hra: ∀(j:Nat) (x:V),a[j]? =some x->RepC w A nm μ H (fa j) x)
    (hvb: ∀(j:Nat) (x:V),b[j]? =some x->vb[j]? =some (fb j)) (hrb: ∀(j:Nat) (x:V),b[j]? =some x->RepC w A nm μ H (fb j) x):
    RepC w A nm μ H (.func (.func (nm f)) va vb) (.fn f a b)
def Bx.le:Bx->Bx->Prop
 | .buf l,.buf l'=>l'=l
 | .buf _,_=>False
 | _,.buf _=>False
 | _,_=>True
theorem Bx.le_refl (x:Bx):Bx.le x x:=by cases x<;>simp[Bx.le]
theorem Bx.le_trans {a b c:Bx} (h1:Bx.le a b) (h2:Bx.le b c):Bx.le a c:=by cases a<;>cases b<;>cases c<;>simp_all [Bx.le]
def O.le:O->O->Prop
 | _,.dead=>True
 | .rows sz rs _,.rows sz' rs' _=>sz'=sz/\rs'.length=rs.length
 | .map _,.map _=>True
 | .loop _ _ _ _,.loop _ _ _ _=>True
 | .raw x,.raw y=>Bx.le x y
 | _,_=>False
theorem O.le_refl (o:O):O.le o o:=by cases o<;>simp[O.le,Bx.le_refl]
theorem O.le_trans {a b c:O} (h1:O.le a b) (h2:O.le b c):O.le a c:=by
 cases a<;>cases b<;>cases c<;>first | exact Bx.le_trans h1 h2 | simp_all [O.le]
structure Evo (w:World) (A:Nat->Prop) (μ:Nat->Nat) (H:Nat->Option O) (w':World) (A':Nat->Prop) (μ':Nat->Nat) (H':Nat->Option O):Prop where
 blk: ∀r,A r->w'.heap[r]? =w.heap[r]?
 sub: ∀r,A r->A' r
 hp: ∀k o,H k=some o-> ∃o',H' k=some o'/\O.le o o'/\(o'.live=true->μ' k=μ k)
 shp: ∀r s,w.shape? r=some s->w'.shape? r=some s
theorem Evo.refl (w:World) (A:Nat->Prop) (μ:Nat->Nat) (H:Nat->Option O):Evo w A μ H w A μ H:=
 ⟨fun _ _=>rfl,fun _ h=>h,fun _ o h=>⟨o,h,O.le_refl o,fun _=>rfl⟩,fun _ _ h=>h⟩
theorem RepC.one {w:World} {A:Nat->Prop} {nm μ:Nat->Nat} {H:Nat->Option O} {v:Value} {x:V} (h:RepC w A nm μ H v x):v.oneCell'=true:=by
 cases h<;>first | rfl | assumption | (rename_i h;exact h.one)
theorem RepC.evo {w w':World} {A A':Nat->Prop} {nm μ μ':Nat->Nat} {H H':Nat->Option O} {v:Value} {x:V} (h:RepC w A nm μ H v x)
 (e:Evo w A μ H w' A' μ' H'):RepC w' A' nm μ' H' v x:=by
 induction h with
 | t h=>exact .t (h.mono e.blk e.sub)
 | ms k i len cap sz rs frz a hk hi hc ha=>
   obtain⟨o',hk',hle,hmu⟩:=e.hp k _ hk
   cases o' with
   | rows sz' rs' frz'=>
     obtain⟨rfl,hl⟩:=hle
     refine .ms k i len cap sz' rs' frz' a hk' (by omega) (by omega) ?_
     rcases ha with ha | ⟨rfl,e1,n,hs,hn⟩
     ·exact .inl ha
     ·exact .inr ⟨by rw[hmu rfl],e1,n,by rw[hmu rfl];exact e.shp _ _ hs,hn⟩
   | map es=>simp[O.le]at hle
   | loop _ _ _ _=>simp[O.le]at hle
   | raw _=>simp[O.le]at hle
   | dead=>exact .dms k i len hk' rfl
 | mp k i off sz rs frz hk hi=>
   obtain⟨o',hk',hle,hmu⟩:=e.hp k _ hk
   cases o' with
   | rows sz' rs' frz'=>
     obtain⟨rfl,hl⟩:=hle
     rw[<- hmu rfl]
     exact .mp k i off sz' rs' frz' hk' (by omega)
   | map es=>simp[O.le]at hle
   | loop _ _ _ _=>simp[O.le]at hle
   | raw _=>simp[O.le]at hle
   | dead=>exact .dmp k i off hk' rfl
 | mb k x hk=>
   obtain⟨o',hk',hle,hmu⟩:=e.hp k _ hk
   cases o' with
   | raw x'=>rw[<- hmu rfl];exact .mb k x' hk'
   | dead=>exact .dmp k 0 0 hk' rfl
   | _=>simp[O.le]at hle
 | mm k es hk=>
   obtain⟨o',hk',hle,hmu⟩:=e.hp k _ hk
   cases o' with
   | rows sz' rs' frz'=>simp[O.le]at hle
   | map es'=>rw[<- hmu rfl];exact .mm k es' hk'
   | loop _ _ _ _=>simp[O.le]at hle
   | raw _=>simp[O.le]at hle
   | dead=>exact .dmm k hk' rfl
 | yl k env ps b st hk=>
   obtain⟨o',hk',hle,hmu⟩:=e.hp k _ hk
   cases o' with
   | rows sz' rs' frz'=>simp[O.le]at hle
   | map es'=>simp[O.le]at hle
   | loop env' ps' b' st'=>rw[<- hmu rfl];exact .yl k env' ps' b' st' hk'
   | raw _=>simp[O.le]at hle
   | dead=>exact .dyl k hk' rfl
 | dyl k hk hv=>
   obtain⟨o',hk',hle,_⟩:=e.hp k _ hk
   cases o'<;>simp[O.le]at hle
   exact .dyl k hk' hv
 | dms k i len hk hv=>
   obtain⟨o',hk',hle,_⟩:=e.hp k _ hk
   cases o'<;>simp[O.le]at hle
   exact .dms k i len hk' hv
 | dmp k i off hk hv=>
   obtain⟨o',hk',hle,_⟩:=e.hp k _ hk
   cases o'<;>simp[O.le]at hle
   exact .dmp k i off hk' hv
 | dmm k hk hv=>
   obtain⟨o',hk',hle,_⟩:=e.hp k _ hk
   cases o'<;>simp[O.le]at hle
   exact .dmm k hk' hv
 | fn f a b va vb fa fb ha hb hva _ hvb _ iha ihb=>exact .fn f a b va vb fa fb ha hb hva iha hvb ihb
def RepL (w:World) (A:Nat->Prop) (nm μ:Nat->Nat) (H:Nat->Option O) (vs:List Value) (cs:List V):Prop:=
 vs.length=cs.length/\ ∀(i:Nat) (c:V),cs[i]? =some c-> ∃v,vs[i]? =some v/\RepC w A nm μ H v c
def RepV1 (w:World) (A:Nat->Prop) (nm μ:Nat->Nat) (H:Nat->Option O) (v:Value):V->Prop
 | .agg cs=> ∃vs,v= .agg vs/\RepL w A nm μ H vs.toList cs
 | .tup _=>False
 | .undef=>False
 | .lb=>False
 | c=>RepC w A nm μ H v c
def RepV (w:World) (A:Nat->Prop) (nm μ:Nat->Nat) (H:Nat->Option O) (v:Value):V->Prop
 | .tup cs=> ∃vs,v= .tuple vs/\vs.size=cs.length/\ ∀(i:Nat) (c:V),cs[i]? =some c-> ∃u,vs[i]? =some u/\RepV1 w A nm μ H u c
 | .undef=>v=undef
 | .lb=>True
 | c=>RepV1 w A nm μ H v c
section
variable {w w' : World} {A A' : Nat->Prop} {nm μ μ' : Nat->Nat} {H H' : Nat->Option O}
theorem RepL.evo {vs:List Value} {cs:List V} (h:RepL w A nm μ H vs cs) (e:Evo w A μ H w' A' μ' H'):RepL w' A' nm μ' H' vs cs:=
 ⟨h.1,fun i c hi=>let⟨v,hv,hr⟩:=h.2 i c hi;⟨v,hv,hr.evo e⟩⟩
theorem RepV1.evo {v:Value} {x:V} (h:RepV1 w A nm μ H v x) (e:Evo w A μ H w' A' μ' H'):RepV1 w' A' nm μ' H' v x:=by
 cases x with
 | agg cs=>obtain⟨vs,rfl,h⟩:=h;exact⟨vs,rfl,h.evo e⟩
 | tup cs=>exact h.elim
 | undef=>exact h.elim
 | lb=>exact h.elim
 | _=>exact RepC.evo h e
theorem RepV.evo {v:Value} {x:V} (h:RepV w A nm μ H v x) (e:Evo w A μ H w' A' μ' H'):RepV w' A' nm μ' H' v x:=by
 cases x with
 | tup cs=>obtain⟨vs,rfl,hl,h⟩:=h;exact⟨vs,rfl,hl,fun i c hi=>let⟨u,hu,hr⟩:=h i c hi;⟨u,hu,hr.evo e⟩⟩
 | undef=>exact h
 | lb=>exact h
 | agg cs=>exact RepV1.evo (x:=.agg cs) h e
 | t x=>exact RepV1.evo (x:=.t x) h e
 | ms k i l=>exact RepV1.evo (x:=.ms k i l) h e
 | mp k i o=>exact RepV1.evo (x:=.mp k i o) h e
 | mm k=>exact RepV1.evo (x:=.mm k) h e
 | yl k=>exact RepV1.evo (x:=.yl k) h e
 | fn f a b=>exact RepV1.evo (x:=.fn f a b) h e
theorem RepV1.toV {v:Value} {x:V} (h:RepV1 w A nm μ H v x):RepV w A nm μ H v x:=by
 cases x<;>first | exact h | exact h.elim
theorem RepC.toV1 {v:Value} {x:V} (h:RepC w A nm μ H v x):RepV1 w A nm μ H v x:=by
 cases h<;>first | exact RepC.t ‹_› | (constructor<;>assumption)
theorem RepC.toV {v:Value} {x:V} (h:RepC w A nm μ H v x):RepV w A nm μ H v x:=h.toV1.toV
theorem RepV.cells {v:Value} {x:V} {cs:List V} (h:RepV w A nm μ H v x) (hc:x.cells=some cs):RepL w A nm μ H v.cells.toList cs:=by
 cases x with
 | agg ds=>
   simp only[V.cells,Option.some.injEq]at hc;subst hc
   obtain⟨vs,rfl,h⟩:=h
   exact h
 | tup _=>simp[V.cells]at hc
 | undef=>simp[V.cells]at hc
 | lb=>simp[V.cells]at hc
 | t _ | ms _ _ _ | mp _ _ _ | mm _ | yl _ | fn _ _ _=>
   simp only[V.cells,Option.some.injEq]at hc;subst hc
   have h':RepC w A nm μ H v _:=h
   have h1:=h'.one
   have hcs:v.cells.toList=[v]:=by cases v<;>simp_all [Value.cells,Value.oneCell']
   rw[hcs]
   refine⟨rfl,fun i c hi=> ?_⟩
   cases i with
   | zero=>simp at hi;subst hi;exact⟨v,rfl,h'⟩
   | succ i=>simp at hi
end
structure Nam where
 nm:Nat->Nat
 gm:Nat->Nat
 G:Nat->List T
 cr:Code->Nat->C->Prop
 tB:Nat
 tU:Nat
def LSt.rel:LSt->LoopState->Option Code->Prop
 | .ready,st,p=>st= .ready/\p=none
 | .enter,st,_=>st= .ready
 | .busy,st,_=>st= .busy
 | .done .normal,_,_=>False
 | .done (.exit id),st,p=>st= .done/\p=some (.exit id)
 | .done .ret,st,p=>st= .done/\p=some .ret
def BObj (w:World) (tB tU:Nat) (μ:Nat->Nat) (H:Nat->Option O) (r:Nat):Bx->Prop
 | .bld none=> ∃p,w.heap[r]? =some (.cells #[p,.slice none 0 0] tB (0,0))/\(p= .pointer none\/p= .pointer (some ⟨r,0,none⟩))
 | .bld (some g)=> ∃a len cap,w.heap[r]? =some (.cells #[.pointer (some ⟨r,0,none⟩),.slice a len cap] tB (0,0))/\
    (H g=some .dead\/ ∃l,H g=some (.raw (.buf l))/\a=some ⟨μ g,0,none⟩/\len=l.length/\w.shape? (μ g)=some (tU,cap))
 | .mid=> ∃p v,w.heap[r]? =some (.cells #[p,v] tB (0,0))
 | .buf l=> ∃cur,w.heap[r]? =some (.cells cur tU (0,0))/\l≠[]/\l.length<=cur.size/\cur.size<=maxLen/\cur.toList.take l.length=l.map fun b=>Value.int .u8 b.toNat
theorem BObj.evo {w w':World} {A A':Nat->Prop} {tB tU:Nat} {μ μ':Nat->Nat} {H H':Nat->Option O} {r:Nat} {x:Bx} (h:BObj w tB tU μ H r x)
 (e:Evo w A μ H w' A' μ' H') (hr:w'.heap[r]? =w.heap[r]?):BObj w' tB tU μ' H' r x:=by
 match x,h with
 | .bld none,⟨p,h1,h2⟩=>exact⟨p,by rw[hr];exact h1,h2⟩
 | .bld (some g),⟨a,len,cap,h1,h2⟩=>
   refine⟨a,len,cap,by rw[hr];exact h1,?_⟩
   rcases h2 with h2 | ⟨l,h2,h3,h4,h5⟩
   ·obtain⟨o',g1,g2,_⟩:=e.hp g _ h2
    cases o'<;>simp[O.le]at g2
    exact .inl g1
   ·obtain⟨o',g1,g2,g3⟩:=e.hp g _ h2
    cases o' with
    | dead=>exact .inl g1
    | raw y=>
      cases y with
      | bld _=>simp[O.le,Bx.le]at g2
      | mid=>simp[O.le,Bx.le]at g2
      | buf l'=>
        simp only[O.le,Bx.le]at g2;subst g2
        exact .inr ⟨l',g1,by rw[g3 rfl];exact h3,h4,by rw[g3 rfl];exact e.shp _ _ h5⟩
    | _=>simp[O.le]at g2
 | .mid,⟨p,v,h1⟩=>exact⟨p,v,by rw[hr];exact h1⟩
 | .buf l,⟨cur,h1,h2⟩=>exact⟨cur,by rw[hr];exact h1,h2⟩
def keyVal1:T->Option Value
 | .int k n=>some (.int k n)
 | .bool b=>some (.bool b)
 | .str s=>some (.string s)
 | _=>none
def keyVals:List T->Option (List Value)
 | []=>some []
 | t::r=>(keyVal1 t).bind fun v=>(keyVals r).map (v:: ·)
def keyVal:T->Option Value
 | .int k n=>some (.int k n)
 | .bool b=>some (.bool b)
 | .str s=>some (.string s)
 | .sl [ts]=>(keyVals ts).map fun l=> .agg l.toArray
 | _=>none
def HObj (w:World) (A:Nat->Prop) (N:Nam) (μ:Nat->Nat) (H:Nat->Option O) (r:Nat):O->Prop
 | .rows sz rs frz=> ∃c e z,w.heap[r]? =some (.cells c e z)/\(frz=false->z=(0,0))/\rs.length*sz<=c.size/\
    (∀(i:Nat) (row:List V),rs[i]? =some row->row.length=sz)/\
    ∀(i:Nat) (row:List V) (j:Nat) (x:V),rs[i]? =some row->row[j]? =some x-> ∃v,c[i*sz+j]? =some v/\RepC w A N.nm μ H v x
 | .map es=> ∃(ms:Array MapEntry) (n:Nat),w.heap[r]? =some (.map ms n)/\ms.size=es.length/\
    ∀(i:Nat) (k:T) (x:V),es[i]? =some (k,x)-> ∃m,ms[i]? =some m/\keyVal k=some m.key/\RepV1 w A N.nm μ H m.val x
 | .loop env ps b st=> ∃L:Go.Loop,w.heap[r]? =some (.loop L)/\L.params=ps.toArray/\(∃ca cb,b= .round ca cb/\N.cr L.assign L.tmps.size ca)/\(∃ca cb,b= .round ca cb/\N.cr L.body L.tmps.size cb)/\st.rel L.state L.pending/\
    (∀t∈ps,t<L.tmps.size)/\ ∀t,RepV w A N.nm μ H (L.tmps.getD t undef) (env t)
 | .raw x=>BObj w N.tB N.tU μ H r x
 | .dead=>True
def LObj (w:World) (A:Nat->Prop) (nm μ:Nat->Nat) (H:Nat->Option O) (r:Nat) (cs:List V):Prop:=
 ∃c e,w.heap[r]? =some (.cells c e (0,0))/\RepL w A nm μ H c.toList cs
def MBH (H:Nat->Option O) (μ:Nat->Nat) (r:Nat):Prop:=
 ∃k o,H k=some o/\(∀sz rs,o≠ .rows sz rs true)/\o.live=true/\μ k=r
def MBL (L:Nat->Option (List V)) (lam:Nat->Nat) (r:Nat):Prop:= ∃t,(L t).isSome=true/\lam t=r
structure Ctx where
 w0:World
 X:Nat->Prop
 A0:Nat->Prop
 H0:Nat->Option O
 μ0:Nat->Nat
def Marks (c:Ctx) (A:Nat->Prop) (w:World) (ds:List Deferred):Prop:=
 ∃rs:List Nat,rs.Nodup/\ds=rs.map (fun r=>{ target:=.collected r,args:= #[] })/\ ∀r∈rs,w.heap[r]? =some (Obj.deferred (some []))/\ ¬A r/\c.w0.heap.size<=r
theorem Marks.nil (c:Ctx) (A:Nat->Prop) (w:World):Marks c A w []:=⟨[],by simp,rfl,by simp⟩
theorem Marks.evo {c:Ctx} {A A':Nat->Prop} {w w':World} {ds:List Deferred} (h:Marks c A w ds) (h1: ∀r:Nat,w.heap[r]? =some (Obj.deferred (some []))->w'.heap[r]? =w.heap[r]?)
 (h2: ∀r:Nat,w.heap[r]? =some (Obj.deferred (some []))->A' r->A r):Marks c A' w' ds:=by
 obtain⟨rs,h3,h4,h5⟩:=h
 exact⟨rs,h3,h4,fun r hr=>let⟨a,b,d⟩:=h5 r hr;⟨by rw[h1 r a];exact a,fun h=>b (h2 r a h),d⟩⟩
theorem Marks.join {c:Ctx} {A A' B:Nat->Prop} {w w':World} {ds:List Deferred} (h:Marks c A w ds) (h':Marks c A' w' ds) (hB: ∀r,B r->w.heap.size<=r):Marks c (fun r=>A' r\/B r) w' ds:=by
 obtain⟨rs,h1,h2,h3⟩:=h
 obtain⟨rs',g1,g2,g3⟩:=h'
 have e:rs'=rs:=by
  rw[h2]at g2
  have hinj: ∀(l l':List Nat),l.map (fun r=>({ target:=.collected r,args:= #[] }:Deferred))=l'.map (fun r=>({ target:=.collected r,args:= #[] }:Deferred))->l'=l:=by
   intro l
   induction l with
   | nil=>intro l' h;cases l' with
     | nil=>rfl
     | cons _ _=>simp at h
   | cons x l ih=>intro l' h;cases l' with
     | nil=>simp at h
     | cons y l'=>
       simp only[List.map_cons,List.cons.injEq,Deferred.mk.injEq,Target.collected.injEq,and_true]at h
       rw[h.1,ih l' h.2]
  exact hinj rs rs' g2
 subst e
 refine⟨rs',g1,g2,fun r hr=> ?_⟩
 obtain⟨a1,a2,a3⟩:=g3 r hr
 refine⟨a1,fun h=> ?_,a3⟩
 rcases h with h | h
 ·exact a2 h
 ·have:=hB r h
  have:=(Array.getElem?_eq_some_iff.1 (h3 r hr).1).1
  omega
structure Rel (N:Nam) (c:Ctx) (ns:Nat) (A:Nat->Prop) (μ lam:Nat->Nat) (s:St) (a:Act) (w:World):Prop where
 size:a.tmps.size=ns
 defers:Marks c A w a.defers
 env: ∀t,RepV w A N.nm μ s.heap (a.tmps.getD t undef) (s.env t)
 loc: ∀t cs,s.loc t=some cs->a.tmps.getD t undef= .pointer (some ⟨lam t,0,none⟩)/\LObj w A N.nm μ s.heap (lam t) cs
 adr: ∀t b o,s.adr t=some (b,o)->s.used b=true/\(s.loc b).isSome=true/\a.tmps.getD t undef= .pointer (some ⟨lam b,o,none⟩)
 heap: ∀k o,s.heap k=some o->HObj w A N μ s.heap (μ k) o
 hinj: ∀k k' o o',s.heap k=some o->s.heap k'=some o'->o.live=true->o'.live=true->μ k=μ k'->k=k'
 linj: ∀t t',(s.loc t).isSome=true->(s.loc t').isSome=true->lam t=lam t'->t=t'
 lh: ∀t k o,(s.loc t).isSome=true->s.heap k=some o->o.live=true->lam t≠μ k
 aH: ∀r,A r-> ¬MBH s.heap μ r
 aL: ∀r,A r-> ¬MBL s.loc lam r
 alt: ∀r,A r->r<w.heap.size
 afz: ∀k sz rs,s.heap k=some (.rows sz rs true)->A (μ k)
 fresh: ∀k,s.nxt<=k->s.heap k=none
 glob: ∀(g j:Nat) (x:T),(N.G g)[j]? =some x->A (N.gm g)/\(∃e,w.shape? (N.gm g)=some (e,(N.G g).length))/\ ∃v,w.cell? ⟨N.gm g,j,none⟩=some v/\RepT w A N.nm v x
 cout:w.os=c.w0.os/\w.output=c.w0.output
 csize:c.w0.heap.size<=w.heap.size
 ckeep: ∀r,r<c.w0.heap.size-> ¬c.X r->w.heap[r]? =c.w0.heap[r]?
 cshp: ∀r x,c.w0.shape? r=some x->w.shape? r=some x
 csub: ∀r,c.A0 r->A r
 canew: ∀r,A r->c.A0 r\/c.X r\/c.w0.heap.size<=r
 clive: ∀r,MBH s.heap μ r->c.X r\/c.w0.heap.size<=r
 cloc: ∀t,(s.loc t).isSome=true->c.X (lam t)\/c.w0.heap.size<=lam t
 chp: ∀k o,c.H0 k=some o-> ∃o',s.heap k=some o'/\O.le o o'/\(o'.live=true->μ k=c.μ0 k)
end Rg
end
section
namespace Rg
open Go
theorem getD_put (a:Act) (d t:Nat) (v:Value) (h:d<a.tmps.size):
 (a.put (some d) v).tmps.getD t undef=if t=d then v else a.tmps.getD t undef:=by
 simp only[Act.put]
 by_cases ht:t=d
 ·subst ht;simp[h]
 ·simp[ht,Array.getD_eq_getD_getElem?,Ne.symm ht]
theorem size_put (a:Act) (d:Option Nat) (v:Value):(a.put d v).tmps.size=a.tmps.size:=by
 cases d<;>simp[Act.put]
theorem defers_put (a:Act) (d:Option Nat) (v:Value):(a.put d v).defers=a.defers:=by
 cases d<;>rfl
theorem used_mono {s:St} {d:Option Nat} {e:Eff} {b:Nat} (h:s.used b=true):(s.apply d e).used b=true:=by
 simp only[St.apply]
 cases e.adr with
 | none=>exact h
 | some x=>simp only[upd];split<;>simp_all
section
variable {N:Nam} {c:Ctx} {ns:Nat} {A:Nat->Prop} {μ lam:Nat->Nat} {s:St} {a:Act} {w:World}
theorem Rel.put (R:Rel N c ns A μ lam s a w) (d:Option Nat) (e:Eff) (v:Value) (hd: ∀x,d=some x->x<ns) (hf:s.free d e)
 (hl:e.loc=none) (hwl:e.wloc=none) (hh:e.hp=[]) (hv:RepV w A N.nm μ s.heap v e.val)
 (ha: ∀b o,e.adr=some (b,o)->(s.loc b).isSome=true/\v= .pointer (some ⟨lam b,o,none⟩)):
 Rel N c ns A μ lam (s.apply d e) (a.put d v) w:=by
 have hheap:(s.apply d e).heap=s.heap:=by simp[St.apply,hh,hpUpd]
 cases d with
 | none=>
   have h1:(s.apply none e).env=s.env:=rfl
   have h2:(s.apply none e).adr=s.adr:=rfl
   have h3:(s.apply none e).loc=s.loc:=by simp[St.apply,hwl]
   refine{ R with env:= ?_,loc:= ?_,adr:= ?_,heap:= ?_,hinj:= ?_,linj:= ?_,lh:= ?_,aH:= ?_,aL:= ?_,afz:=by rw[hheap];exact R.afz,fresh:= ?_,clive:= ?_,cloc:= ?_,chp:= ?_ }
   ·rw[hheap,h1];exact R.env
   ·rw[hheap,h3];exact R.loc
   ·intro t b o h
    rw[h2]at h
    obtain⟨g1,g2,g3⟩:=R.adr t b o h
    exact⟨used_mono g1,by rw[h3];exact g2,g3⟩
   ·rw[hheap];exact R.heap
   ·rw[hheap];exact R.hinj
   ·rw[h3];exact R.linj
   ·rw[hheap,h3];exact R.lh
   ·rw[hheap];exact R.aH
   ·rw[h3];exact R.aL
   ·rw[hheap];exact R.fresh
   ·rw[hheap];exact R.clive
   ·rw[h3];exact R.cloc
   ·rw[hheap];exact R.chp
 | some d=>
   have hdn:d<a.tmps.size:=by rw[R.size];exact hd d rfl
   obtain⟨hf1,hf2⟩:=hf d rfl
   have h1:(s.apply (some d) e).env=upd s.env d e.val:=rfl
   have h2:(s.apply (some d) e).adr=upd s.adr d e.adr:=rfl
   have h3:(s.apply (some d) e).loc=upd s.loc d none:=by simp[St.apply,hwl,hl]
   have hsome: ∀t,((upd s.loc d none) t).isSome=true->t≠d/\(s.loc t).isSome=true:=by
    intro t h
    by_cases ht:t=d
    ·subst ht;simp at h
    ·exact⟨ht,by rwa[upd_other _ _ ht]at h⟩
   refine{ R with size:=by rw[size_put];exact R.size,defers:=by rw[defers_put];exact R.defers,env:= ?_,loc:= ?_,adr:= ?_,heap:= ?_,hinj:= ?_,linj:= ?_,lh:= ?_,aH:= ?_,aL:= ?_,afz:=by rw[hheap];exact R.afz,fresh:= ?_,clive:= ?_,cloc:= ?_,chp:= ?_ }
   ·intro t
    rw[hheap,h1,getD_put a d t v hdn]
    by_cases ht:t=d
    ·subst ht;simpa using hv
    ·rw[upd_other _ _ ht,if_neg ht];exact R.env t
   ·intro t cs h
    rw[h3]at h
    obtain⟨ht,_⟩:=hsome t (by rw[h];rfl)
    rw[upd_other _ _ ht]at h
    rw[hheap,getD_put a d t v hdn,if_neg ht]
    exact R.loc t cs h
   ·intro t b o h
    rw[h2]at h
    rw[h3,getD_put a d t v hdn]
    by_cases ht:t=d
    ·subst ht
     simp only[upd_same]at h
     obtain⟨g1,g2⟩:=ha b o h
     have hb:b≠t:=hf2 b o h
     refine⟨by simp[St.apply,h],by rw[upd_other _ _ hb];exact g1,by simp[g2]⟩
    ·rw[upd_other _ _ ht]at h
     obtain⟨g1,g2,g3⟩:=R.adr t b o h
     have hb:b≠d:=by intro hb;subst hb;simp[hf1]at g1
     exact⟨used_mono g1,by rw[upd_other _ _ hb];exact g2,by rw[if_neg ht];exact g3⟩
   ·rw[hheap];exact R.heap
   ·rw[hheap];exact R.hinj
   ·intro t t' g g'
    rw[h3]at g g'
    exact R.linj t t' (hsome t g).2 (hsome t' g').2
   ·intro t k o g
    rw[h3]at g
    rw[hheap]
    exact R.lh t k o (hsome t g).2
   ·rw[hheap];exact R.aH
   ·intro r hr ⟨t,g,he⟩
    rw[h3]at g
    exact R.aL r hr ⟨t,(hsome t g).2,he⟩
   ·rw[hheap];exact R.fresh
   ·rw[hheap];exact R.clive
   ·intro t g
    rw[h3]at g
    exact R.cloc t (hsome t g).2
   ·rw[hheap];exact R.chp
theorem Rel.world (R:Rel N c ns A μ lam s a w) {w':World} (hsz:w.heap.size<=w'.heap.size)
 (hb: ∀r,A r\/MBL s.loc lam r\/(∃k o,s.heap k=some o/\o.live=true/\μ k=r)->w'.heap[r]? =w.heap[r]?)
 (hk: ∀r,r<c.w0.heap.size-> ¬c.X r->w'.heap[r]? =w.heap[r]?)
 (hs: ∀r x,w.shape? r=some x->w'.shape? r=some x) (hmk:Marks c A w' a.defers) (hov:w'.os=w.os/\w'.output=w.output:=by exact⟨rfl,rfl⟩):Rel N c ns A μ lam s a w':=by
 have E:Evo w A μ s.heap w' A μ s.heap:=⟨fun r h=>hb r (.inl h),fun _ h=>h,fun _ o h=>⟨o,h,O.le_refl o,fun _=>rfl⟩,hs⟩
 refine{ R with defers:=hmk,env:=fun t=>(R.env t).evo E,loc:= ?_,heap:= ?_,glob:= ?_,alt:=fun r h=>Nat.lt_of_lt_of_le (R.alt r h) hsz,cout:=⟨hov.1.trans R.cout.1,hov.2.trans R.cout.2⟩,csize:=Nat.le_trans R.csize hsz,ckeep:= ?_,cshp:=fun r x h=>hs r x (R.cshp r x h) }
 ·intro t cs h
  obtain⟨h1,cc,e,h2,h3⟩:=R.loc t cs h
  exact⟨h1,cc,e,by rw[hb _ (.inr (.inl ⟨t,by rw[h];rfl,rfl⟩))];exact h2,h3.evo E⟩
 ·intro k o h
  have:=R.heap k o h
  cases o with
  | dead=>trivial
  | rows sz rs frz=>
    obtain⟨cc,e,z,h1,h2,h3,h4,h5⟩:=this
    exact⟨cc,e,z,by rw[hb _ (.inr (.inr ⟨k,_,h,rfl,rfl⟩))];exact h1,h2,h3,h4,fun i row j x g1 g2=>let⟨v,hv,hr⟩:=h5 i row j x g1 g2;⟨v,hv,hr.evo E⟩⟩
  | map es=>
    obtain⟨ms,n,h1,h2,h3⟩:=this
    exact⟨ms,n,by rw[hb _ (.inr (.inr ⟨k,_,h,rfl,rfl⟩))];exact h1,h2,fun i k x g=>let⟨m,hm,hr,hv⟩:=h3 i k x g;⟨m,hm,hr,hv.evo E⟩⟩
  | loop env ps b st=>
    obtain⟨L,h1,h2,h3,h4,h5,h7,h6⟩:=this
    exact⟨L,by rw[hb _ (.inr (.inr ⟨k,_,h,rfl,rfl⟩))];exact h1,h2,h3,h4,h5,h7,fun t=>(h6 t).evo E⟩
  | raw x=>exact BObj.evo this E (hb _ (.inr (.inr ⟨k,_,h,rfl,rfl⟩)))
 ·intro g j x h
  obtain⟨h1,⟨te,hte⟩,v,hv,hr⟩:=R.glob g j x h
  exact⟨h1,⟨te,E.shp _ _ hte⟩,v,by rw[cell?_eq (hb _ (.inl h1))];exact hv,hr.mono E.blk E.sub⟩
 ·intro r hr hx
  rw[hk r hr hx];exact R.ckeep r hr hx
theorem shape?_push (w:World) (o:Go.Obj) (r:Nat) (x:TypeId×Nat) (h:w.shape? r=some x):(w.alloc o).shape? r=some x:=by
 have hlt:r<w.heap.size:=by
  rcases Nat.lt_or_ge r w.heap.size with h' | h'
  ·exact h'
  ·simp[World.shape?,Array.getElem?_eq_none h']at h
 have:(w.alloc o).heap[r]? =w.heap[r]? :=by simp only[World.alloc,Array.getElem?_push];simp[Nat.ne_of_lt hlt]
 simpa[World.shape?,this]using h
theorem BObj.isCells {w:World} {tB tU:Nat} {μ:Nat->Nat} {H:Nat->Option O} {r:Nat} {x:Bx} (h:BObj w tB tU μ H r x): ∃cs t z,w.heap[r]? =some (.cells cs t z):=by
 match x,h with
 | .bld none,⟨_,h,_⟩=>exact⟨_,_,_,h⟩
 | .bld (some _),⟨_,_,_,h,_⟩=>exact⟨_,_,_,h⟩
 | .mid,⟨_,_,h⟩=>exact⟨_,_,_,h⟩
 | .buf _,⟨_,h,_⟩=>exact⟨_,_,_,h⟩
theorem Rel.lt_live (R:Rel N c ns A μ lam s a w) {k:Nat} {o:O} (h:s.heap k=some o) (hl:o.live=true):μ k<w.heap.size:=by
 have:=R.heap k o h
 cases o with
 | dead=>simp[O.live]at hl
 | rows sz rs frz=>obtain⟨cc,e,z,h1,_⟩:=this;exact(Array.getElem?_eq_some_iff.1 h1).1
 | map es=>obtain⟨ms,n,h1,_⟩:=this;exact(Array.getElem?_eq_some_iff.1 h1).1
 | loop env ps b st=>obtain⟨L,h1,_⟩:=this;exact(Array.getElem?_eq_some_iff.1 h1).1
 | raw x=>
   obtain⟨_,_,_,h1⟩:=BObj.isCells this
   exact(Array.getElem?_eq_some_iff.1 h1).1
theorem Rel.ndef (R:Rel N c ns A μ lam s a w) {k:Nat} {o:O} (h:s.heap k=some o) (hl:o.live=true):w.heap[μ k]? ≠some (Obj.deferred (some [])):=by
 have:=R.heap k o h
 cases o with
 | dead=>simp[O.live]at hl
 | rows sz rs frz=>obtain⟨cc,e,z,h1,_⟩:=this;rw[h1];simp
 | map es=>obtain⟨ms,n,h1,_⟩:=this;rw[h1];simp
 | loop env ps b st=>obtain⟨L,h1,_⟩:=this;rw[h1];simp
 | raw x=>
   obtain⟨_,_,_,h1⟩:=BObj.isCells this
   rw[h1];simp
theorem Rel.ndef_loc (R:Rel N c ns A μ lam s a w) {t:Nat} (h:(s.loc t).isSome=true):w.heap[lam t]? ≠some (Obj.deferred (some [])):=by
 obtain⟨cs,h⟩:=Option.isSome_iff_exists.1 h
 obtain⟨_,cc,e,h1,_⟩:=R.loc t cs h
 rw[h1];simp
theorem Rel.lt_loc (R:Rel N c ns A μ lam s a w) {t:Nat} (h:(s.loc t).isSome=true):lam t<w.heap.size:=by
 obtain⟨cs,h⟩:=Option.isSome_iff_exists.1 h
 obtain⟨_,cc,e,h1,_⟩:=R.loc t cs h
 exact(Array.getElem?_eq_some_iff.1 h1).1
theorem HObj.evo {w w':World} {A A':Nat->Prop} {N:Nam} {μ μ':Nat->Nat} {H H':Nat->Option O} {r:Nat} {o:O} (h:HObj w A N μ H r o)
 (e:Evo w A μ H w' A' μ' H') (hr:w'.heap[r]? =w.heap[r]?):HObj w' A' N μ' H' r o:=by
 cases o with
 | dead=>trivial
 | rows sz rs frz=>
   obtain⟨cc,e0,z,h1,h2,h3,h4,h5⟩:=h
   exact⟨cc,e0,z,by rw[hr];exact h1,h2,h3,h4,fun i row j x g1 g2=>let⟨v,hv,hr⟩:=h5 i row j x g1 g2;⟨v,hv,hr.evo e⟩⟩
 | map es=>
   obtain⟨ms,n,h1,h2,h3⟩:=h
   exact⟨ms,n,by rw[hr];exact h1,h2,fun i k x g=>let⟨m,hm,hr,hv⟩:=h3 i k x g;⟨m,hm,hr,hv.evo e⟩⟩
 | loop env ps b st=>
   obtain⟨L,h1,h2,h3,h4,h5,h7,h6⟩:=h
   exact⟨L,by rw[hr];exact h1,h2,h3,h4,h5,h7,fun t=>(h6 t).evo e⟩
 | raw x=>exact BObj.evo h e hr
theorem LObj.evo {w w':World} {A A':Nat->Prop} {nm μ μ':Nat->Nat} {H H':Nat->Option O} {r:Nat} {cs:List V} (h:LObj w A nm μ H r cs)
 (e:Evo w A μ H w' A' μ' H') (hr:w'.heap[r]? =w.heap[r]?):LObj w' A' nm μ' H' r cs:=by
 obtain⟨cc,e0,h1,h2⟩:=h
 exact⟨cc,e0,by rw[hr];exact h1,h2.evo e⟩
structure Orphan (c:Ctx) (A:Nat->Prop) (μ lam:Nat->Nat) (s:St) (r:Nat):Prop where
 a: ¬A r
 l: ∀t,(s.loc t).isSome=true->lam t≠r
 h: ∀k o,s.heap k=some o->o.live=true->μ k≠r
 x:c.X r\/c.w0.heap.size<=r
theorem Rel.orphan_new (R:Rel N c ns A μ lam s a w):Orphan c A μ lam s w.heap.size:=
 ⟨fun h=>Nat.lt_irrefl _ (R.alt _ h),fun _ h e=>Nat.lt_irrefl _ (e▸R.lt_loc h),fun _ _ h hl e=>Nat.lt_irrefl _ (e▸R.lt_live h hl),.inr R.csize⟩
theorem Rel.alloc (R:Rel N c ns A μ lam s a w) (o:Go.Obj):Rel N c ns A μ lam s a (w.alloc o):=by
 have hlt: ∀r,r<w.heap.size->(w.alloc o).heap[r]? =w.heap[r]? :=by
  intro r hr
  simp only[World.alloc,Array.getElem?_push];simp[Nat.ne_of_lt hr]
 refine R.world (by simp) ?_ ?_ (fun r x h=>shape?_push w o r x h) (R.defers.evo (fun r h=>hlt r (Array.getElem?_eq_some_iff.1 h).1) (fun _ _ h=>h))
 ·rintro r (h | ⟨t,h,rfl⟩ | ⟨k,o',h,hl,rfl⟩)
  ·exact hlt r (R.alt r h)
  ·exact hlt _ (R.lt_loc h)
  ·exact hlt _ (R.lt_live h hl)
 ·intro r hr _
  exact hlt r (Nat.lt_of_lt_of_le hr R.csize)
theorem Rel.drew (R:Rel N c ns A μ lam s a w):Rel N c ns A μ lam s a w.drew:=
 R.world (Nat.le_refl _) (fun _ _=>rfl) (fun _ _ _=>rfl) (fun _ _ h=>h) R.defers
theorem shape?_setRow {w:World} {g:Nat} {old cs:Array Value} {t:TypeId} {fr:Nat×Nat} (hg:w.heap[g]? =some (.cells old t fr)) (hs:cs.size=old.size)
 (r:Nat) (x:TypeId×Nat) (h:w.shape? r=some x):(w.setRow g cs).shape? r=some x:=by
 by_cases hr:r=g
 ·subst hr
  simp only[World.shape?,hg,setRow_heap w r old cs t fr hg]at h⊢
  simpa[hs]using h
 ·simpa[World.shape?,setRow_other w g r cs hr]using h
theorem Rel.setOrphan (R:Rel N c ns A μ lam s a w) {r:Nat} (hr:Orphan c A μ lam s r) {old cs:Array Value} {t:TypeId} {fr:Nat×Nat}
 (hg:w.heap[r]? =some (.cells old t fr)) (hs:cs.size=old.size):Rel N c ns A μ lam s a (w.setRow r cs):=by
 refine R.world (by simp) ?_ ?_ (shape?_setRow hg hs) (R.defers.evo (fun r' h=>setRow_other w r r' cs (fun e=>by subst e;rw[hg]at h;simp at h)) (fun _ _ h=>h))
 ·rintro r' (h | ⟨t,h,rfl⟩ | ⟨k,o',h,hl,rfl⟩)
  ·exact setRow_other w r r' cs (fun e=>hr.a (e▸h))
  ·exact setRow_other w r _ cs (hr.l t h)
  ·exact setRow_other w r _ cs (hr.h k o' h hl)
 ·intro r' h1 h2
  refine setRow_other w r r' cs (fun e=> ?_)
  subst e
  rcases hr.x with h | h
  ·exact h2 h
  ·omega
theorem Rel.adoptH (R:Rel N c ns A μ lam s a w) {k r:Nat} {o:O} (hk:s.heap k=none) (hn:k<s.nxt) (hr:Orphan c A μ lam s r)
 (ho:HObj w A N μ s.heap r o) (hno: ∀sz rs,o≠ .rows sz rs true):Rel N c ns A (upd μ k r) lam { s with heap:=upd s.heap k (some o) } a w:=by
 have hne: ∀k' o',s.heap k'=some o'->k'≠k:=by rintro k' o' h rfl;simp[hk]at h
 have E:Evo w A μ s.heap w A (upd μ k r) (upd s.heap k (some o)):=
  ⟨fun _ _=>rfl,fun _ h=>h,fun k' o' h=>⟨o',by rw[upd_other _ _ (hne k' o' h)];exact h,O.le_refl o',fun _=>upd_other _ _ (hne k' o' h)⟩,fun _ _ h=>h⟩
 have hsplit: ∀k' o',(upd s.heap k (some o)) k'=some o'->(k'=k/\o'=o)\/(k'≠k/\s.heap k'=some o'):=by
  intro k' o' h
  by_cases e:k'=k
  ·subst e;simp at h;exact .inl ⟨rfl,h.symm⟩
  ·rw[upd_other _ _ e]at h;exact .inr ⟨e,h⟩
 refine{ R with env:=fun t=>(R.env t).evo E,loc:= ?_,heap:= ?_,hinj:= ?_,lh:= ?_,aH:= ?_,afz:= ?_,fresh:= ?_,clive:= ?_,chp:= ?_ }
 ·intro t cs h
  obtain⟨h1,h2⟩:=R.loc t cs h
  exact⟨h1,h2.evo E rfl⟩
 ·intro k' o' h
  rcases hsplit k' o' h with⟨rfl,rfl⟩ | ⟨e,h⟩
  ·simp only[upd_same];exact ho.evo E rfl
  ·simp only[upd_other _ _ e];exact(R.heap k' o' h).evo E rfl
 ·intro k1 k2 o1 o2 h1 h2 l1 l2 he
  rcases hsplit k1 o1 h1 with⟨rfl,rfl⟩ | ⟨e1,g1⟩<;>rcases hsplit k2 o2 h2 with⟨rfl,rfl⟩ | ⟨e2,g2⟩
  ·rfl
  ·simp only[upd_same,upd_other _ _ e2]at he;exact absurd he.symm (hr.h k2 o2 g2 l2)
  ·simp only[upd_same,upd_other _ _ e1]at he;exact absurd he (hr.h k1 o1 g1 l1)
  ·simp only[upd_other _ _ e1,upd_other _ _ e2]at he;exact R.hinj k1 k2 o1 o2 g1 g2 l1 l2 he
 ·intro t k' o' ht h hl
  rcases hsplit k' o' h with⟨rfl,rfl⟩ | ⟨e,h⟩
  ·simp only[upd_same];exact hr.l t ht
  ·simp only[upd_other _ _ e];exact R.lh t k' o' ht h hl
 ·rintro r' hA ⟨k',o',h,hm,hl,he⟩
  rcases hsplit k' o' h with⟨rfl,rfl⟩ | ⟨e,h⟩
  ·simp only[upd_same]at he;subst he;exact hr.a hA
  ·simp only[upd_other _ _ e]at he;exact R.aH r' hA ⟨k',o',h,hm,hl,he⟩
 ·intro k' sz rs h
  rcases hsplit k' _ h with⟨rfl,g⟩ | ⟨e,h⟩
  ·exact absurd g.symm (hno sz rs)
  ·simp only[upd_other _ _ e];exact R.afz k' sz rs h
 ·intro k' h
  have:k'≠k:=fun e=>by subst e;exact absurd h (Nat.not_le.2 hn)
  simp only[upd_other _ _ this];exact R.fresh k' h
 ·rintro r' ⟨k',o',h,hm,hl,he⟩
  rcases hsplit k' o' h with⟨rfl,rfl⟩ | ⟨e,h⟩
  ·simp only[upd_same]at he;subst he;exact hr.x
  ·simp only[upd_other _ _ e]at he;exact R.clive r' ⟨k',o',h,hm,hl,he⟩
 ·intro k' o' h
  obtain⟨o1,h1,h2,h3⟩:=R.chp k' o' h
  have e:=hne k' o1 h1
  exact⟨o1,by simp only[upd_other _ _ e];exact h1,h2,fun hl=>by rw[upd_other _ _ e];exact h3 hl⟩
theorem Rel.changeH (R:Rel N c ns A μ lam s a w) {k:Nat} {o o':O} {w':World} (hk:s.heap k=some o) (hle:O.le o o') (hl:o.live=true)
 (hm: ∀sz rs,o≠ .rows sz rs true) (hm': ∀sz rs,o'≠ .rows sz rs true) (hl':o'.live=true)
 (hsz:w'.heap.size=w.heap.size) (hother: ∀r,r≠μ k->w'.heap[r]? =w.heap[r]?) (hs: ∀r x,w.shape? r=some x->w'.shape? r=some x)
 (ho:Evo w A μ s.heap w' A μ (upd s.heap k (some o'))->HObj w' A N μ (upd s.heap k (some o')) (μ k) o') (hov:w'.os=w.os/\w'.output=w.output:=by exact⟨rfl,rfl⟩):
 Rel N c ns A μ lam { s with heap:=upd s.heap k (some o') } a w':=by
 have hA: ∀r,A r->r≠μ k:=fun r h e=>R.aH r h ⟨k,o,hk,hm,hl,e.symm⟩
 have E:Evo w A μ s.heap w' A μ (upd s.heap k (some o')):=by
  refine⟨fun r h=>hother r (hA r h),fun _ h=>h,fun k1 o1 h=> ?_,hs⟩
  by_cases e:k1=k
  ·subst e;rw[hk]at h;cases h;exact⟨o',by simp,hle,fun _=>rfl⟩
  ·exact⟨o1,by rw[upd_other _ _ e];exact h,O.le_refl o1,fun _=>rfl⟩
 have hsplit: ∀k1 o1,(upd s.heap k (some o')) k1=some o1->(k1=k/\o1=o')\/(k1≠k/\s.heap k1=some o1):=by
  intro k1 o1 h
  by_cases e:k1=k
  ·subst e;simp at h;exact .inl ⟨rfl,h.symm⟩
  ·rw[upd_other _ _ e]at h;exact .inr ⟨e,h⟩
 have hback: ∀k1 o1,(upd s.heap k (some o')) k1=some o1->o1.live=true-> ∃o2,s.heap k1=some o2/\o2.live=true:=by
  intro k1 o1 h hl1
  rcases hsplit k1 o1 h with⟨rfl,rfl⟩ | ⟨_,h⟩
  ·exact⟨o,hk,hl⟩
  ·exact⟨o1,h,hl1⟩
 have hdf: ∀r:Nat,w.heap[r]? =some (Obj.deferred (some []))->w'.heap[r]? =w.heap[r]? :=fun r h=>hother r (fun e=>R.ndef hk hl (e▸h))
 refine{ R with defers:=R.defers.evo hdf (fun _ _ h=>h),env:=fun t=>(R.env t).evo E,loc:= ?_,heap:= ?_,hinj:= ?_,lh:= ?_,aH:= ?_,alt:= ?_,afz:= ?_,fresh:= ?_,glob:= ?_,cout:=⟨hov.1.trans R.cout.1,hov.2.trans R.cout.2⟩,csize:= ?_,ckeep:= ?_,cshp:= ?_,clive:= ?_,chp:= ?_ }
 ·intro t cs h
  obtain⟨h1,h2⟩:=R.loc t cs h
  exact⟨h1,h2.evo E (hother _ (R.lh t k o (by rw[h];rfl) hk hl))⟩
 ·intro k1 o1 h
  rcases hsplit k1 o1 h with⟨rfl,rfl⟩ | ⟨e,h⟩
  ·exact ho E
  ·cases hl1:o1.live with
   | false=>cases o1<;>simp_all [O.live];trivial
   | true=>exact(R.heap k1 o1 h).evo E (hother _ (fun he=>e (R.hinj k1 k o1 o h hk hl1 hl he)))
 ·intro k1 k2 o1 o2 h1 h2 l1 l2 he
  obtain⟨p1,q1,m1⟩:=hback k1 o1 h1 l1
  obtain⟨p2,q2,m2⟩:=hback k2 o2 h2 l2
  exact R.hinj k1 k2 p1 p2 q1 q2 m1 m2 he
 ·intro t k1 o1 ht h hl1
  obtain⟨p1,q1,m1⟩:=hback k1 o1 h hl1
  exact R.lh t k1 p1 ht q1 m1
 ·rintro r hAr ⟨k1,o1,h,hmm,hl1,he⟩
  rcases hsplit k1 o1 h with⟨rfl,rfl⟩ | ⟨e,h⟩
  ·exact hA r hAr he.symm
  ·exact R.aH r hAr ⟨k1,o1,h,hmm,hl1,he⟩
 ·intro r h;rw[hsz];exact R.alt r h
 ·intro k1 sz rs h
  rcases hsplit k1 _ h with⟨rfl,g⟩ | ⟨e,h⟩
  ·exact absurd g.symm (hm' sz rs)
  ·exact R.afz k1 sz rs h
 ·intro k1 h
  have:k1≠k:=by rintro rfl;have:=R.fresh k1 h;simp[hk]at this
  simp only[upd_other _ _ this];exact R.fresh k1 h
 ·intro g j x h
  obtain⟨h1,⟨te,hte⟩,v,hv,hr⟩:=R.glob g j x h
  exact⟨h1,⟨te,E.shp _ _ hte⟩,v,by rw[cell?_eq (hother _ (hA _ h1))];exact hv,hr.mono E.blk E.sub⟩
 ·rw[hsz];exact R.csize
 ·intro r h1 h2
  rw[hother r ?_]
  ·exact R.ckeep r h1 h2
  ·rintro rfl
   rcases R.clive _ ⟨k,o,hk,hm,hl,rfl⟩with h | h
   ·exact h2 h
   ·omega
 ·intro r x h;exact hs r x (R.cshp r x h)
 ·rintro r ⟨k1,o1,h,hmm,hl1,he⟩
  rcases hsplit k1 o1 h with⟨rfl,rfl⟩ | ⟨e,h⟩
  ·exact R.clive r ⟨k1,o,hk,hm,hl,he⟩
  ·exact R.clive r ⟨k1,o1,h,hmm,hl1,he⟩
 ·intro k1 o1 h
  obtain⟨o2,h2,h3,h4⟩:=R.chp k1 o1 h
  by_cases e:k1=k
  ·subst e
   rw[hk]at h2;cases h2
   exact⟨o',by simp,O.le_trans h3 hle,fun _=>h4 hl⟩
  ·exact⟨o2,by simp only[upd_other _ _ e];exact h2,h3,h4⟩
theorem Rel.kill (R:Rel N c ns A μ lam s a w) {k:Nat} {o:O} (hk:s.heap k=some o):Rel N c ns A μ lam { s with heap:=upd s.heap k (some .dead) } a w:=by
 have E:Evo w A μ s.heap w A μ (upd s.heap k (some .dead)):=by
  refine⟨fun _ _=>rfl,fun _ h=>h,fun k1 o1 h=> ?_,fun _ _ h=>h⟩
  by_cases e:k1=k
  ·subst e;exact⟨.dead,by simp,by cases o1<;>trivial,fun _=>rfl⟩
  ·exact⟨o1,by rw[upd_other _ _ e];exact h,O.le_refl o1,fun _=>rfl⟩
 have hback: ∀k1 o1,(upd s.heap k (some .dead)) k1=some o1->o1.live=true->k1≠k/\s.heap k1=some o1:=by
  intro k1 o1 h hl1
  by_cases e:k1=k
  ·subst e;simp at h;subst h;simp[O.live]at hl1
  ·rw[upd_other _ _ e]at h;exact⟨e,h⟩
 refine{ R with env:=fun t=>(R.env t).evo E,loc:= ?_,heap:= ?_,hinj:= ?_,lh:= ?_,aH:= ?_,afz:=fun k1 sz rs h=>R.afz k1 sz rs (hback k1 _ h rfl).2,fresh:= ?_,clive:= ?_,chp:= ?_ }
 ·intro t cs h
  obtain⟨h1,h2⟩:=R.loc t cs h
  exact⟨h1,h2.evo E rfl⟩
 ·intro k1 o1 h
  cases hl1:o1.live with
  | false=>cases o1<;>simp_all [O.live];trivial
  | true=>exact(R.heap k1 o1 (hback k1 o1 h hl1).2).evo E rfl
 ·intro k1 k2 o1 o2 h1 h2 l1 l2 he
  exact R.hinj k1 k2 o1 o2 (hback k1 o1 h1 l1).2 (hback k2 o2 h2 l2).2 l1 l2 he
 ·intro t k1 o1 ht h hl1
  exact R.lh t k1 o1 ht (hback k1 o1 h hl1).2 hl1
 ·rintro r hAr ⟨k1,o1,h,hmm,hl1,he⟩
  exact R.aH r hAr ⟨k1,o1,(hback k1 o1 h hl1).2,hmm,hl1,he⟩
 ·intro k1 h
  have:k1≠k:=by rintro rfl;have:=R.fresh k1 h;simp[hk]at this
  simp only[upd_other _ _ this];exact R.fresh k1 h
 ·rintro r ⟨k1,o1,h,hmm,hl1,he⟩
  exact R.clive r ⟨k1,o1,(hback k1 o1 h hl1).2,hmm,hl1,he⟩
 ·intro k1 o1 h
  obtain⟨o2,h2,h3,h4⟩:=R.chp k1 o1 h
  obtain⟨o3,h5,h6,h7⟩:=E.hp k1 o2 h2
  refine⟨o3,h5,O.le_trans h3 h6,fun hl3=>h4 ?_⟩
  have:=hback k1 o3 h5 hl3
  rw[this.2]at h2;cases h2;exact hl3
theorem Rel.orphan_kill (R:Rel N c ns A μ lam s a w) {k:Nat} {o:O} (hk:s.heap k=some o) (hl:o.live=true) (hm: ∀sz rs,o≠ .rows sz rs true):
 Orphan c A μ lam { s with heap:=upd s.heap k (some .dead) } (μ k):=by
 refine⟨fun h=>R.aH _ h ⟨k,o,hk,hm,hl,rfl⟩,fun t h=>R.lh t k o h hk hl,fun k1 o1 h hl1 he=> ?_,R.clive _ ⟨k,o,hk,hm,hl,rfl⟩⟩
 by_cases e:k1=k
 ·subst e;simp at h;subst h;simp[O.live]at hl1
 ·simp only[upd_other _ _ e]at h;exact e (R.hinj k1 k o1 o h hk hl1 hl he)
theorem Rel.adoptL (R:Rel N c ns A μ lam s a w) (d:Nat) (hd:d<ns) (hu:s.used d=false) {r:Nat} (hr:Orphan c A μ lam s r) {cs:List V}
 (ho:LObj w A N.nm μ s.heap r cs):
 Rel N c ns A μ (upd lam d r) (s.apply (some d) { val:=.lb,loc:=some cs }) (a.put (some d) (.pointer (some ⟨r,0,none⟩))) w:=by
 have hdn:d<a.tmps.size:=by rw[R.size];exact hd
 have h0:s.apply (some d) { val:=.lb,loc:=some cs }= { s with env:=upd s.env d .lb,adr:=upd s.adr d none,loc:=upd s.loc d (some cs) }:=rfl
 rw[h0]
 have hsplit: ∀t,((upd s.loc d (some cs)) t).isSome=true->t=d\/(t≠d/\(s.loc t).isSome=true):=by
  intro t h
  by_cases e:t=d
  ·exact .inl e
  ·exact .inr ⟨e,by rwa[upd_other _ _ e]at h⟩
 refine{ R with size:=by rw[size_put];exact R.size,defers:=by rw[defers_put];exact R.defers,env:= ?_,loc:= ?_,adr:= ?_,linj:= ?_,lh:= ?_,aL:= ?_,cloc:= ?_ }
 ·intro t
  rw[getD_put a d t _ hdn]
  by_cases ht:t=d
  ·subst ht;simp[RepV]
  ·simp only[upd_other _ _ ht,if_neg ht];exact R.env t
 ·intro t cs' h
  rw[getD_put a d t _ hdn]
  by_cases ht:t=d
  ·subst ht
   simp only[upd_same,Option.some.injEq]at h
   subst h
   simp only[upd_same,if_true]
   exact⟨trivial,ho⟩
  ·simp only[upd_other _ _ ht]at h
   simp only[upd_other _ _ ht,if_neg ht]
   exact R.loc t cs' h
 ·intro t b o h
  rw[getD_put a d t _ hdn]
  by_cases ht:t=d
  ·subst ht;simp at h
  ·simp only[upd_other _ _ ht]at h
   obtain⟨g1,g2,g3⟩:=R.adr t b o h
   have hb:b≠d:=by intro hb;subst hb;simp[hu]at g1
   simp only[upd_other _ _ hb,if_neg ht]
   exact⟨g1,g2,g3⟩
 ·intro t t' g g' he
  rcases hsplit t g with rfl | ⟨e,q⟩<;>rcases hsplit t' g' with rfl | ⟨e',q'⟩
  ·rfl
  ·simp only[upd_same,upd_other _ _ e']at he;exact absurd he.symm (hr.l t' q')
  ·simp only[upd_same,upd_other _ _ e]at he;exact absurd he (hr.l t q)
  ·simp only[upd_other _ _ e,upd_other _ _ e']at he;exact R.linj t t' q q' he
 ·intro t k o g h hl
  rcases hsplit t g with rfl | ⟨e,g⟩
  ·simp only[upd_same];exact fun e=>hr.h k o h hl e.symm
  ·simp only[upd_other _ _ e];exact R.lh t k o g h hl
 ·rintro r' hA ⟨t,g,he⟩
  rcases hsplit t g with rfl | ⟨e,g⟩
  ·simp only[upd_same]at he;subst he;exact hr.a hA
  ·simp only[upd_other _ _ e]at he;exact R.aL r' hA ⟨t,g,he⟩
 ·intro t g
  rcases hsplit t g with rfl | ⟨e,g⟩
  ·simp only[upd_same];exact hr.x
  ·simp only[upd_other _ _ e];exact R.cloc t g
theorem Rel.changeL (R:Rel N c ns A μ lam s a w) {b:Nat} {cs cs':List V} {w':World} (hb:s.loc b=some cs)
 (hsz:w'.heap.size=w.heap.size) (hother: ∀r,r≠lam b->w'.heap[r]? =w.heap[r]?) (hs: ∀r x,w.shape? r=some x->w'.shape? r=some x)
 (ho:Evo w A μ s.heap w' A μ s.heap->LObj w' A N.nm μ s.heap (lam b) cs') (hov:w'.os=w.os/\w'.output=w.output:=by exact⟨rfl,rfl⟩):
 Rel N c ns A μ lam { s with loc:=upd s.loc b (some cs') } a w':=by
 have hbs:(s.loc b).isSome=true:=by rw[hb];rfl
 have hA: ∀r,A r->r≠lam b:=fun r h e=>R.aL r h ⟨b,hbs,e.symm⟩
 have E:Evo w A μ s.heap w' A μ s.heap:=⟨fun r h=>hother r (hA r h),fun _ h=>h,fun _ o h=>⟨o,h,O.le_refl o,fun _=>rfl⟩,hs⟩
 have hback: ∀t,((upd s.loc b (some cs')) t).isSome=true->(s.loc t).isSome=true:=by
  intro t h
  by_cases e:t=b
  ·subst e;exact hbs
  ·rwa[upd_other _ _ e]at h
 have hdf: ∀r:Nat,w.heap[r]? =some (Obj.deferred (some []))->w'.heap[r]? =w.heap[r]? :=fun r h=>hother r (fun e=>R.ndef_loc hbs (e▸h))
 refine{ R with defers:=R.defers.evo hdf (fun _ _ h=>h),env:=fun t=>(R.env t).evo E,loc:= ?_,adr:= ?_,heap:= ?_,linj:= ?_,lh:= ?_,aL:= ?_,alt:= ?_,glob:= ?_,cout:=⟨hov.1.trans R.cout.1,hov.2.trans R.cout.2⟩,csize:= ?_,ckeep:= ?_,cshp:= ?_,cloc:= ?_ }
 ·intro t ds h
  by_cases e:t=b
  ·subst e
   simp only[upd_same,Option.some.injEq]at h
   subst h
   exact⟨(R.loc t cs hb).1,ho E⟩
  ·simp only[upd_other _ _ e]at h
   obtain⟨h1,h2⟩:=R.loc t ds h
   exact⟨h1,h2.evo E (hother _ (fun he=>e (R.linj t b (by rw[h];rfl) hbs he)))⟩
 ·intro t b' o h
  obtain⟨g1,g2,g3⟩:=R.adr t b' o h
  refine⟨g1,?_,g3⟩
  by_cases e:b'=b
  ·subst e;simp
  ·simp only[upd_other _ _ e];exact g2
 ·intro k o h
  cases hl:o.live with
  | false=>cases o<;>simp_all [O.live];trivial
  | true=>exact(R.heap k o h).evo E (hother _ (fun he=>R.lh b k o hbs h hl he.symm))
 ·intro t t' g g';exact R.linj t t' (hback t g) (hback t' g')
 ·intro t k o g;exact R.lh t k o (hback t g)
 ·rintro r hr ⟨t,g,he⟩;exact R.aL r hr ⟨t,hback t g,he⟩
 ·intro r h;rw[hsz];exact R.alt r h
 ·intro g j x h
  obtain⟨h1,⟨te,hte⟩,v,hv,hr⟩:=R.glob g j x h
  exact⟨h1,⟨te,E.shp _ _ hte⟩,v,by rw[cell?_eq (hother _ (hA _ h1))];exact hv,hr.mono E.blk E.sub⟩
 ·rw[hsz];exact R.csize
 ·intro r h1 h2
  rw[hother r ?_]
  ·exact R.ckeep r h1 h2
  ·rintro rfl
   rcases R.cloc b hbs with h | h
   ·exact h2 h
   ·omega
 ·intro r x h;exact hs r x (R.cshp r x h)
 ·intro t g;exact R.cloc t (hback t g)
theorem Rel.freeze (R:Rel N c ns A μ lam s a w) {k sz:Nat} {rs:List (List V)} {frz:Bool} (hk:s.heap k=some (.rows sz rs frz)):
 Rel N c ns (fun r=>A r\/r=μ k) μ lam { s with heap:=upd s.heap k (some (.rows sz rs true)) } a w:=by
 have E:Evo w A μ s.heap w (fun r=>A r\/r=μ k) μ (upd s.heap k (some (.rows sz rs true))):=by
  refine⟨fun _ _=>rfl,fun _ h=> .inl h,fun k1 o1 h=> ?_,fun _ _ h=>h⟩
  by_cases e:k1=k
  ·subst e;rw[hk]at h;cases h;exact⟨.rows sz rs true,by simp,⟨rfl,rfl⟩,fun _=>rfl⟩
  ·exact⟨o1,by rw[upd_other _ _ e];exact h,O.le_refl o1,fun _=>rfl⟩
 have hsplit: ∀k1 o1,(upd s.heap k (some (.rows sz rs true))) k1=some o1->(k1=k/\o1= .rows sz rs true)\/(k1≠k/\s.heap k1=some o1):=by
  intro k1 o1 h
  by_cases e:k1=k
  ·subst e;simp at h;exact .inl ⟨rfl,h.symm⟩
  ·rw[upd_other _ _ e]at h;exact .inr ⟨e,h⟩
 have hback: ∀k1 o1,(upd s.heap k (some (.rows sz rs true))) k1=some o1->o1.live=true-> ∃o2,s.heap k1=some o2/\o2.live=true:=by
  intro k1 o1 h hl1
  rcases hsplit k1 o1 h with⟨rfl,rfl⟩ | ⟨_,h⟩
  ·exact⟨_,hk,rfl⟩
  ·exact⟨o1,h,hl1⟩
 have hdf: ∀r:Nat,w.heap[r]? =some (Obj.deferred (some []))->(A r\/r=μ k)->A r:=fun r h h'=>h'.resolve_right (fun e=>R.ndef hk rfl (e▸h))
 refine{ R with defers:=R.defers.evo (fun _ _=>rfl) hdf,env:=fun t=>(R.env t).evo E,loc:= ?_,heap:= ?_,hinj:= ?_,lh:= ?_,aH:= ?_,aL:= ?_,alt:= ?_,afz:= ?_,fresh:= ?_,glob:= ?_,csub:= ?_,canew:= ?_,clive:= ?_,chp:= ?_ }
 ·intro t cs h
  obtain⟨h1,h2⟩:=R.loc t cs h
  exact⟨h1,h2.evo E rfl⟩
 ·intro k1 o1 h
  rcases hsplit k1 o1 h with⟨rfl,rfl⟩ | ⟨e,h⟩
  ·obtain⟨cc,e0,z,h1,h2,h3,h4,h5⟩:=(R.heap k1 _ hk).evo E rfl
   exact⟨cc,e0,z,h1,(by simp),h3,h4,h5⟩
  ·exact(R.heap k1 o1 h).evo E rfl
 ·intro k1 k2 o1 o2 h1 h2 l1 l2 he
  obtain⟨p1,q1,m1⟩:=hback k1 o1 h1 l1
  obtain⟨p2,q2,m2⟩:=hback k2 o2 h2 l2
  exact R.hinj k1 k2 p1 p2 q1 q2 m1 m2 he
 ·intro t k1 o1 ht h hl1
  obtain⟨p1,q1,m1⟩:=hback k1 o1 h hl1
  exact R.lh t k1 p1 ht q1 m1
 ·rintro r hAr ⟨k1,o1,h,hmm,hl1,he⟩
  rcases hsplit k1 o1 h with⟨rfl,rfl⟩ | ⟨e,h⟩
  ·exact hmm sz rs rfl
  ·rcases hAr with hAr | rfl
   ·exact R.aH r hAr ⟨k1,o1,h,hmm,hl1,he⟩
   ·exact e (R.hinj k1 k o1 _ h hk hl1 rfl he)
 ·rintro r (hAr | rfl) ⟨t,g,he⟩
  ·exact R.aL r hAr ⟨t,g,he⟩
  ·exact R.lh t k _ g hk rfl he
 ·rintro r (h | rfl)
  ·exact R.alt r h
  ·exact R.lt_live hk rfl
 ·intro k1 sz1 rs1 h
  rcases hsplit k1 _ h with⟨rfl,h⟩ | ⟨e,h⟩
  ·exact .inr rfl
  ·exact .inl (R.afz k1 sz1 rs1 h)
 ·intro k1 h
  have:k1≠k:=by rintro rfl;have:=R.fresh k1 h;simp[hk]at this
  simp only[upd_other _ _ this];exact R.fresh k1 h
 ·intro g j x h
  obtain⟨h1,⟨te,hte⟩,v,hv,hr⟩:=R.glob g j x h
  exact⟨.inl h1,⟨te,hte⟩,v,hv,hr.mono E.blk E.sub⟩
 ·intro r h;exact .inl (R.csub r h)
 ·rintro r (h | rfl)
  ·exact R.canew r h
  ·cases frz with
   | true=>exact R.canew _ (R.afz k sz rs hk)
   | false=>exact .inr (R.clive _ ⟨k,_,hk,by simp,rfl,rfl⟩)
 ·rintro r ⟨k1,o1,h,hmm,hl1,he⟩
  rcases hsplit k1 o1 h with⟨rfl,rfl⟩ | ⟨e,h⟩
  ·exact absurd rfl (hmm sz rs)
  ·exact R.clive r ⟨k1,o1,h,hmm,hl1,he⟩
 ·intro k1 o1 h
  obtain⟨o2,h2,h3,h4⟩:=R.chp k1 o1 h
  obtain⟨o3,h5,h6,h7⟩:=E.hp k1 o2 h2
  refine⟨o3,h5,O.le_trans h3 h6,fun hl3=>h4 ?_⟩
  obtain⟨o4,h8,h9⟩:=hback k1 o3 h5 hl3
  rw[h8]at h2;cases h2;exact h9
end
end Rg
end
