/- Part of the proof of laws of relyguardlaw36. No condition. -/
import Derived.Test.YtaiokglcgiemnaaGreatDoorGartAH
import Derived.Shelf.Strings.OnBuilder
import Derived.Shelf.Strconv.Itoa3
import Derived.Shelf.LaysM
import Derived.Shelf.Sort.Plain
import Derived.Shelf.Slices.In.SortNone
import Derived.Shelf.Slices.CompactI
import Derived.Shelf.Slices.Clone
import Derived.Test.YtaiokglcgiemnaaGreatDoorRows
import Derived.KernelRfl
import Derived.Test.YtaiokglcgiemnaaGreatDoorGartAG
import Derived.ChangeArms
import GoSem.ClaimJoined
set_option linter.unusedVariables false
set_option linter.defProp false
set_option linter.unusedSimpArgs false
section
namespace Rg
open Go Go.Proofs Go.Lib Go.Shelf Go.RowKit
variable {P:Program} {ρ:Ren}
structure Wrote (w:World) (b:Nat) (v:Value) (n:Nat) (xs news:List Value) (T e:TypeId) (v':Value) (w':World):Prop where
 blk:w'.heap[b]? =some (.cells #[.pointer (some ⟨b,0,none⟩),v'] T (0,0))
 own:w'.ownsRow 0 e 1 v' (n+news.length) (xs++news)
 oth: ∀k,k<w.heap.size->k≠b->some k≠v.ownBlock->w'.heap[k]? =w.heap[k]?
 shp: ∀k x,w.shape? k=some x->w'.shape? k=some x
 new:v'.ownBlock=v.ownBlock\/ ∃g',v'.ownBlock=some g'/\w.heap.size<=g'
 nil:v'= .slice none 0 0<->v= .slice none 0 0/\news=[]
 out:w'.os=w.os/\w'.output=w.output
 size:w.heap.size<=w'.heap.size
structure Checked (w:World) (b:Nat) (v:Value) (T:TypeId) (w':World):Prop where
 blk:w'.heap[b]? =some (.cells #[.pointer (some ⟨b,0,none⟩),v] T (0,0))
 oth: ∀k,k≠b->w'.heap[k]? =w.heap[k]?
 out:w'.os=w.os/\w'.output=w.output
 size:w'.heap.size=w.heap.size
theorem WH {w:World} {b:Nat} {p v q:Value} {T:TypeId} (h:w.heap[b]? =some (.cells #[p,v] T (0,0))):(w.setCell ⟨b,0,none⟩ q).heap[b]? =some (.cells #[q,v] T (0,0)):=by
 simp[World.setCell,vx,h]
theorem VA {w:World} {b i k:Nat} {q:Value} (a:k≠b):(w.setCell ⟨b,i,none⟩ q).heap[k]? =w.heap[k]? :=Below.heap_setCell _ _ _ _ (fun e=>a (al e))
theorem checked (L:Lays.n240 P ρ) (X:Builder.X72 P ρ) (b:Nat) (p v:Value) (w:World) (a:w.heap[b]? =some (.cells #[p,v] (ρ.t 72) (0,0))) (hp:p= .pointer none\/p= .pointer (some ⟨b,0,none⟩)):
 Calls P (ρ.f 240) #[.pointer (some ⟨b,0,none⟩)] w fun e w'=>e= .returned (.tuple #[])/\Checked w b v (ρ.t 72) w':=by
 have d:w.cell? ⟨b,0,none⟩=some p:=by rw[Lib.cell_of_heap a];rfl
 rcases hp with rfl | rfl
 ·refine(Any.Builder_copyCheck_fresh L X b w d (by simp[World.shape?,a]) (Lib.frozen_of_heap a 0)).mono ?_;rintro e w' ⟨rfl,rfl⟩;exact⟨rfl,WH a,fun k f=>VA f,⟨rfl,rfl⟩,by simp[World.setCell]⟩
 ·refine(Any.Builder_copyCheck_used L X b w d).mono ?_;rintro e w' ⟨rfl,rfl⟩;exact⟨rfl,a,fun _ _=>rfl,⟨rfl,rfl⟩,rfl⟩
structure Took (w:World) (g:Option Nat) (w':World):Prop where
 oth: ∀k,some k≠g->w'.heap[k]? =w.heap[k]?
 shp: ∀k x,w.shape? k=some x->w'.shape? k=some x
 out:w'.os=w.os/\w'.output=w.output
 size:w'.heap.size=w.heap.size
end Rg
end
section
namespace Rg
open Go Go.Proofs Go.Lib Go.Shelf Go.RowKit Go.Sort
variable {N:Nam} {c:Ctx} {A:Nat->Prop} {μ lam:Nat->Nat} {w:World} {H:Nat->Option O} {n:Nat}
theorem Rel.changeB (R:Rel N c 0 A μ lam (.init [] H n) dr w) {k:Nat} {x:Bx} {w':World} (f:H k=some (.raw x)) (hx: ∀l,x≠ .buf l)
 (S:w.heap.size<=w'.heap.size) {gb:Option Nat} (J: ∀g,gb=some g->Orphan c A μ lam (.init [] H n) g) (K: ∀r,r<w.heap.size->r≠μ k->some r≠gb->w'.heap[r]? =w.heap[r]?)
 (L: ∀r x,w.shape? r=some x->w'.shape? r=some x) (ho: ∃p v,w'.heap[μ k]? =some (.cells #[p,v] N.tB (0,0))) (U:w'.os=w.os/\w'.output=w.output):
 Rel N c 0 A μ lam (.init [] (upd H k (some (.raw .mid))) n) dr w':=by
 have u:(O.raw x).live=true:=rfl;have F: ∀G rs,O.raw x≠ .rows G rs true:=by intro G rs h;cases h
 have QC: ∀r,A r->some r≠gb:=fun r h e=>(J r e.symm).a h
 have Z: ∀r,A r->w'.heap[r]? =w.heap[r]? :=fun r h=>K r (R.alt r h) (fun e=>R.aH r h ⟨k,_,f,F,u,e.symm⟩) (QC r h)
 have M:O.le (.raw x) (.raw .mid):=by cases x<;>first | trivial | exact absurd rfl (hx _)
 have D1: ∀a d,H a=some d->d.live=true->a≠k->w'.heap[μ a]? =w.heap[μ a]? :=fun a d h D Az=>K _ (R.lt_live h D) (fun e=>Az (R.hinj a k d _ h f D u e)) (fun e=>(J _ e.symm).h a d h D rfl)
 have E:Evo w A μ H w' A μ (upd H k (some (.raw .mid))):=by
  refine⟨Z,fun _ h=>h,fun a d h=> ?_,L⟩
  by_cases e:a=k
  ·subst e;rw[f]at h;cases h;exact⟨_,af,M,fun _=>rfl⟩
  ·exact⟨d,by rw[aP _ _ e];exact h,O.le_refl d,fun _=>rfl⟩
 have B: ∀a d,(upd H k (some (.raw .mid))) a=some d->(a=k/\d= .raw .mid)\/(a≠k/\H a=some d):=by
  intro a d h
  by_cases e:a=k
  ·subst e;simp at h;exact .inl ⟨rfl,h.symm⟩
  ·rw[aP _ _ e]at h;exact .inr ⟨e,h⟩
 have Q: ∀a d,(upd H k (some (.raw .mid))) a=some d->d.live=true-> ∃z,H a=some z/\z.live=true:=by
  intro a d h m;rcases B a d h with⟨rfl,rfl⟩ | ⟨_,h⟩
  ·exact⟨_,f,u⟩
  ·exact⟨d,h,m⟩
 exact{
  size:=rfl
  defers:=d7.nil _ _ _
  env:=fun t=>by simp[St.init,mU,dr,aO]
  loc:=fun t cs h=>by simp[St.init]at h
  adr:=fun t b o h=>by simp[St.init]at h
  heap:=fun a d h=>by
   rcases B a d h with⟨rfl,rfl⟩ | ⟨e,h⟩
   ·exact ho
   ·cases m:d.live with
    | false=>cases d<;>simp_all [O.live];trivial
    | true=>exact(R.heap a d h).evo E (D1 a d h m e)
  hinj:=fun a k2 d z q i D l2 s=>by
   obtain⟨p1,q1,m1⟩:=Q a d q D;obtain⟨p2,q2,m2⟩:=Q k2 z i l2;exact R.hinj a k2 p1 p2 q1 q2 m1 m2 s
  linj:=fun t t' h=>by simp[St.init]at h
  lh:=fun t k o h=>by simp[St.init]at h
  aH:=fun r T C=>by
   obtain⟨a,d,h,I,m,s⟩:=C;rcases B a d h with⟨rfl,rfl⟩ | ⟨e,h⟩
   ·exact R.aH r T ⟨a,_,f,F,u,s⟩
   ·exact R.aH r T ⟨a,d,h,I,m,s⟩
  aL:=fun r _ C=>by obtain⟨t,h,_⟩:=C;simp[St.init]at h
  alt:=fun r h=>fw (R.alt r h) S
  afz:=fun a G rs h=>by
   rcases B a _ h with⟨rfl,g⟩ | ⟨e,h⟩
   ·cases g
   ·exact R.afz a G rs h
  fresh:=fun a h=>by
   have:a≠k:=by rintro rfl;have:=R.fresh a h;simp only[St.init,f]at this;cases this
   show upd H k _ a=none;rw[aP _ _ this];exact R.fresh a h
  glob:=fun g j y h=>by
   obtain⟨q,⟨te,F1⟩,v,hv,hr⟩:=R.glob g j y h;exact⟨q,⟨te,L _ _ F1⟩,v,by rw[cell?_eq (Z _ q)];exact hv,hr.mono E.blk E.sub⟩
  cout:=⟨U.1.trans R.cout.1,U.2.trans R.cout.2⟩
  csize:=cU R.csize S
  ckeep:=fun r q i=>by
   rw[K r (fw q R.csize) ?_ ?_]
   ·exact R.ckeep r q i
   ·rintro rfl;rcases R.clive _ ⟨k,_,f,F,u,rfl⟩with h | h
    ·exact i h
    ·omega
   ·intro e;rcases(J r e.symm).x with h | h
    ·exact i h
    ·omega
  cshp:=fun r y h=>L r y (R.cshp r y h)
  csub:=R.csub
  canew:=R.canew
  clive:=fun r C=>by
   obtain⟨a,d,h,I,m,s⟩:=C;rcases B a d h with⟨rfl,rfl⟩ | ⟨e,h⟩
   ·exact R.clive r ⟨a,_,f,F,u,s⟩
   ·exact R.clive r ⟨a,d,h,I,m,s⟩
  cloc:=fun t h=>by simp[St.init]at h
  chp:=fun a d h=>by
   obtain⟨z,i,X,Y⟩:=R.chp a d h
   by_cases e:a=k
   ·subst e;have V:H a=some z:=i;rw[f]at V;cases V;exact⟨.raw .mid,by simp[St.init],O.le_trans X M,fun _=>Y u⟩
   ·exact⟨z,by simp only[St.init,aP _ _ e];exact i,X,Y⟩ }
theorem kda {w:World} {A:Nat->Prop} {nm μ:Nat->Nat} {H:ae} {vs:Array Value} {x y:V} (h:fD w A nm μ H vs [x,y]): ∃u v,vs= #[u,v]/\aO w A nm μ H u x/\aO w A nm μ H v y:=by
 obtain⟨b,a⟩:=h;obtain⟨u,g,d⟩:=a 0 x rfl;obtain⟨v,j,f⟩:=a 1 y rfl;refine⟨u,v,?_,d,f⟩;apply tq;intro i
 match i with
 | 0=>simpa using g
 | 1=>simpa using j
 | i+2=>rw[jR (by simp at b;omega),jR af]
theorem ZK {P : Program} {g q j : Nat} {ρ : Ren} (C : LaysM.n171 P ρ) (G : ρ.f 171 = N.nm g) (I : P.globalNamed "internal/strconv.uint64pow10" = some q) (m : N.gm j = q) (d : N.G j = Lib.pow10Tab.map (T.int .u64))
 {rf:Func} (f:Real P (N.nm g) rf):pu P N g .itoa:=by
 refine⟨⟨rf,f⟩,fun args H n r J M h=>by simp[jo]at h,fun args r h=> ?_⟩;intro A w vs L l F;rw[<- G];unfold nI at h;split at h
 all_goals(try contradiction)
 rename_i z _;split at h
 ·rename_i s;cases h;obtain⟨Q,rfl,u⟩:=nG F;cases u.int_inv
  have D : Lib.TabIs P w "internal/strconv.uint64pow10" .u64 Lib.pow10Tab := by
   have E:=l j 0 (.int .u64 1) (by rw[d];rfl);obtain⟨_,⟨K,a⟩,_⟩:=E;rw[m]at a;unfold World.shape? at a;unfold Lib.TabIs World.var?;rw[I]
   cases b:w.heap[q]? with
   | none=>rw[b]at a;cases a
   | some o=>
     rw[b]at a
     cases o with
     | cells cs e R=>
       simp only[zA,dx]at a;simp only[zD,b,zA];apply tq;intro i
       by_cases hi:i<Lib.pow10Tab.length
       ·obtain⟨_,_,v,p,x⟩:=l j i (.int .u64 Lib.pow10Tab[i]) (by rw[d,zJ,zI hi];rfl);rw[m,Lib.cell_of_heap b]at p;cases x;rw[p];simp[hi]
       ·rw[jR (by rw[a.2,d];simp;omega),jR (by simp;omega)]
     | _=>cases a
  refine(Any.strconv_Itoa C z s.1 s.2 w D).mono ?_;rintro e w' ⟨rfl,k,os,rfl⟩
  have B: ∀r,r<w.heap.size->(grow (w.drewN k) os).heap[r]? =w.heap[r]? :=fun r f=>by
   simp[grow,H_,f]
  refine⟨_,rfl,⟨?_,?_⟩,?_,B,(RepC.t (.str _)).toV⟩
  ·rfl
  ·rfl
  ·simp[grow]
 ·cases h
theorem Mt: ∀{es:List (List T)} {l:List ByteArray},mV es=some l->es.length=l.length/\ ∀(i:Nat) (s:ByteArray),l[i]? =some s->es[i]? =some [.str s]
 | [],l,h=>by simp only[mV,zA]at h;subst h;simp
 | e::es,l,h=>by
   unfold mV at h;split at h
   ·rename_i a;cases a
   ·rename_i s j a;cases a;rw[zE]at h;obtain⟨l',f,rfl⟩:=h;obtain⟨b,d⟩:=Mt f;refine⟨by simp[b],fun i g hi=> ?_⟩
    cases i with
    | zero=>simp at hi;subst hi;rfl
    | succ i=>simpa using d i g (al hi)
   ·cases h
theorem ZJ {P:Program} {g:Nat} {ρ:Ren} (p:Lays.n156 P ρ) (X:Builder.Extra P ρ) (R:ρ.f 156=N.nm g) {rf:Func} (U:Real P (N.nm g) rf):pu P N g .joinS:=by
 refine⟨⟨rf,U⟩,fun args H n r Z n' h=>by simp[jo]at h,fun args r h=> ?_⟩;intro A w vs M JI Q;rw[<- R];unfold nI at h;split at h
 all_goals(try contradiction)
 rename_i es sep _;simp only[zB]at h;obtain⟨l,T,h⟩:=h;split at h
 ·rename_i C;cases h;obtain⟨u1,u2,rfl,E,G⟩:=kda Q;cases G.str_inv;obtain⟨B,L⟩:=Mt T
  have J:(Lib.join (l.map (·.data.toList)) sep.data.toList).length<=140737488355328:=by
   have:=C.2;unfold oz at this;simpa[ByteArray.size]using this
  have b: ∀(e:Ending) (w':World),(e= .returned (.string (oz l sep))/\Below w.heap.size w w')-> ∃v,e= .returned v/\(w'.os=w.os/\w'.output=w.output)/\w.heap.size<=w'.heap.size/\(∀q,q<w.heap.size->w'.heap[q]? =w.heap[q]?)/\
   aO w' (fun q=>A q\/(w.heap.size<=q/\q<w'.heap.size)) N.nm (fun _=>0) (fun _=>none) v (.t (.str (oz l sep))):=by
   rintro e w' ⟨rfl,i⟩;exact⟨_,rfl,⟨i.os,i.output⟩,i.size,i.block,(RepC.t (.str _)).toV⟩
  cases E.t_inv with
  | sl0 a cap=>
    have:l=[]:=fu (al B.symm);subst this;refine(Any.strings_Join_none p X a cap sep w).mono ?_;rintro e w' ⟨rfl,rfl⟩
    exact b _ _ ⟨rfl,Below.refl _ _⟩
  | sl o f cap sz es Y h0 hc K V F I=>
    have D: ∀(j:Nat) (x:ByteArray),l[j]? =some x->w.cell? ⟨o,f+j,none⟩=some (.string x):=by
     intro j x S;have m:=L j x S;have s:=V j _ m;simp at s;subst s;have u:=F j _ 0 _ m rfl;have z:=I j _ 0 _ m rfl;cases d:Y j 0<;>rw[d]at z<;>cases z
     rw[d]at u;simpa using u
    rw[B];exact(Any.strings_Join p X o f cap l sep w D (M o K) C.1 aa J).mono b
 ·cases h
end Rg
end
section
namespace Go.Proofs
open Go.Shelf Rg
def Tryz.lays189_ren:Go.Shelf.Ren:=⟨fun | 189=>35 | 125=>81 | 257=>80 | 128=>132 | 129=>133 | 294=>123 | 295=>124 | 296=>125 | 297=>126 | 298=>127 | 299=>128 | 216=>129 | 300=>130 | 301=>131 | 328=>182 | 329=>183 | 330=>184 | 331=>185 | 332=>186 | 215=>187 | 343=>212 | n=>n,fun | 28=>28 | 3=>3 | 46=>143 | 0=>0 | 51=>205 | 53=>207 | 4=>4 | 183=>198 | 182=>197 | 131=>175 | 5=>5 | 9=>9 | 218=>245 | 222=>249 | 228=>269 | 229=>270 | n=>n,fun | n=>n⟩
theorem Tryz.lays189:Go.Proofs.Lays.n189 Tryz.prog Tryz.lays189_ren:={
 mixed:=aj
 f125:=bG Tryz.func81
 f128:=bG Tryz.func132
 f129:=bG Tryz.func133
 f189:=bG Tryz.func35
 f215:=bG Tryz.func187
 f216:=bG Tryz.func129
 f257:=bG Tryz.func80
 f294:=bG Tryz.func123
 f295:=bG Tryz.func124
 f296:=bG Tryz.func125
 f297:=bG Tryz.func126
 f298:=bG Tryz.func127
 f299:=bG Tryz.func128
 f300:=bG Tryz.func130
 f301:=bG Tryz.func131
 f328:=bG Tryz.func182
 f329:=bG Tryz.func183
 f330:=bG Tryz.func184
 f331:=bG Tryz.func185
 f332:=bG Tryz.func186
 f343:=bG Tryz.func212
 t0:=Tryz.underlying0
 a0:=Tryz.isAgg0
 z0:=Tryz.sizeOf0
 v0:=Tryz.zeroValue0
 t3:=Tryz.underlying3
 a3:=Tryz.isAgg3
 z3:=Tryz.sizeOf3
 v3:=Tryz.zeroValue3
 t4:=Tryz.underlying4
 a4:=Tryz.isAgg4
 z4:=Tryz.sizeOf4
 v4:=Tryz.zeroValue4
 t5:=Tryz.underlying5
 a5:=Tryz.isAgg5
 z5:=Tryz.sizeOf5
 v5:=Tryz.zeroValue5
 t9:=Tryz.underlying9
 a9:=Tryz.isAgg9
 z9:=Tryz.sizeOf9
 v9:=Tryz.zeroValue9
 t28:=Tryz.underlying28
 a28:=Tryz.isAgg28
 z28:=Tryz.sizeOf28
 v28:=Tryz.zeroValue28
 t46:=Tryz.underlying143
 a46:=Tryz.isAgg143
 z46:=Tryz.sizeOf143
 v46:=Tryz.zeroValue143
 t51:=Tryz.underlying205
 a51:=Tryz.isAgg205
 z51:=Tryz.sizeOf205
 v51:=Tryz.zeroValue205
 t53:=Tryz.underlying207
 a53:=Tryz.isAgg207
 z53:=Tryz.sizeOf207
 v53:=Tryz.zeroValue207
 t131:=Tryz.underlying175
 a131:=Tryz.isAgg175
 z131:=Tryz.sizeOf175
 v131:=Tryz.zeroValue175
 t182:=Tryz.underlying197
 a182:=Tryz.isAgg197
 z182:=Tryz.sizeOf197
 v182:=Tryz.zeroValue197
 t183:=Tryz.underlying198
 a183:=Tryz.isAgg198
 z183:=Tryz.sizeOf198
 v183:=Tryz.zeroValue198
 t218:=Tryz.underlying245
 a218:=Tryz.isAgg245
 z218:=Tryz.sizeOf245
 v218:=Tryz.zeroValue245
 t222:=Tryz.underlying249
 a222:=Tryz.isAgg249
 z222:=Tryz.sizeOf249
 v222:=Tryz.zeroValue249
 t228:=Tryz.underlying269
 a228:=Tryz.isAgg269
 z228:=Tryz.sizeOf269
 v228:=Tryz.zeroValue269
 t229:=Tryz.underlying270
 a229:=Tryz.isAgg270
 z229:=Tryz.sizeOf270
 v229:=Tryz.zeroValue270 }
def Tryz.lays2n20_ren:Go.Shelf.Ren:=⟨fun | 20=>36 | n=>n,fun | 22=>28 | 3=>3 | 4=>4 | 0=>0 | n=>n,fun | n=>n⟩
theorem Tryz.lays2n20:Go.Proofs.Lays2.n20 Tryz.prog Tryz.lays2n20_ren:={
 mixed:=aj
 f20:=bG Tryz.func36
 t0:=Tryz.underlying0
 a0:=Tryz.isAgg0
 z0:=Tryz.sizeOf0
 v0:=Tryz.zeroValue0
 t3:=Tryz.underlying3
 a3:=Tryz.isAgg3
 z3:=Tryz.sizeOf3
 v3:=Tryz.zeroValue3
 t4:=Tryz.underlying4
 a4:=Tryz.isAgg4
 z4:=Tryz.sizeOf4
 v4:=Tryz.zeroValue4
 t22:=Tryz.underlying28
 a22:=Tryz.isAgg28
 z22:=Tryz.sizeOf28
 v22:=Tryz.zeroValue28
 i3:=by kernel_rfl }
def Tryz.lays2n15_ren:Go.Shelf.Ren:=⟨fun | 15=>156 | n=>n,fun | 22=>28 | 3=>3 | 4=>4 | n=>n,fun | n=>n⟩
theorem Tryz.lays2n15:Go.Proofs.Lays2.n15 Tryz.prog Tryz.lays2n15_ren:={
 mixed:=aj
 f15:=bG Tryz.func156
 t3:=Tryz.underlying3
 a3:=Tryz.isAgg3
 z3:=Tryz.sizeOf3
 v3:=Tryz.zeroValue3
 t4:=Tryz.underlying4
 a4:=Tryz.isAgg4
 z4:=Tryz.sizeOf4
 v4:=Tryz.zeroValue4
 t22:=Tryz.underlying28
 a22:=Tryz.isAgg28
 z22:=Tryz.sizeOf28
 v22:=Tryz.zeroValue28
 i3:=by kernel_rfl }
def Tryz.laysM171_ren:Go.Shelf.Ren:=⟨fun | 171=>161 | 243=>202 | 246=>216 | 283=>232 | 284=>233 | 285=>234 | 286=>235 | 129=>133 | 317=>243 | 318=>244 | 319=>245 | 320=>246 | 337=>248 | 338=>249 | n=>n,fun | 3=>3 | 9=>9 | 2=>2 | 4=>4 | 171=>278 | 0=>0 | 53=>207 | 37=>46 | 5=>5 | 173=>280 | 212=>288 | 51=>205 | 20=>20 | 213=>289 | 46=>143 | 232=>290 | 233=>291 | n=>n,fun | 17=>1 | 18=>3 | 19=>4 | n=>n⟩
theorem Tryz.laysM171:Go.Proofs.LaysM.n171 Tryz.prog Tryz.laysM171_ren:={
 mixed:=aj
 f129:=bG Tryz.func133
 f171:=bG Tryz.func161
 f243:=bG Tryz.func202
 f246:=bG Tryz.func216
 f283:=bG Tryz.func232
 f284:=bG Tryz.func233
 f285:=bG Tryz.func234
 f286:=bG Tryz.func235
 f317:=bG Tryz.func243
 f318:=bG Tryz.func244
 f319:=bG Tryz.func245
 f320:=bG Tryz.func246
 f337:=bG Tryz.func248
 f338:=bG Tryz.func249
 t0:=Tryz.underlying0
 a0:=Tryz.isAgg0
 z0:=Tryz.sizeOf0
 v0:=Tryz.zeroValue0
 t2:=Tryz.underlying2
 a2:=Tryz.isAgg2
 z2:=Tryz.sizeOf2
 v2:=Tryz.zeroValue2
 t3:=Tryz.underlying3
 a3:=Tryz.isAgg3
 z3:=Tryz.sizeOf3
 v3:=Tryz.zeroValue3
 t4:=Tryz.underlying4
 a4:=Tryz.isAgg4
 z4:=Tryz.sizeOf4
 v4:=Tryz.zeroValue4
 t5:=Tryz.underlying5
 a5:=Tryz.isAgg5
 z5:=Tryz.sizeOf5
 v5:=Tryz.zeroValue5
 t9:=Tryz.underlying9
 a9:=Tryz.isAgg9
 z9:=Tryz.sizeOf9
 v9:=Tryz.zeroValue9
 t20:=Tryz.underlying20
 a20:=Tryz.isAgg20
 z20:=Tryz.sizeOf20
 v20:=Tryz.zeroValue20
 t37:=Tryz.underlying46
 a37:=Tryz.isAgg46
 z37:=Tryz.sizeOf46
 v37:=Tryz.zeroValue46
 t46:=Tryz.underlying143
 a46:=Tryz.isAgg143
 z46:=Tryz.sizeOf143
 v46:=Tryz.zeroValue143
 t51:=Tryz.underlying205
 a51:=Tryz.isAgg205
 z51:=Tryz.sizeOf205
 v51:=Tryz.zeroValue205
 t53:=Tryz.underlying207
 a53:=Tryz.isAgg207
 z53:=Tryz.sizeOf207
 v53:=Tryz.zeroValue207
 t171:=Tryz.underlying278
 a171:=Tryz.isAgg278
 z171:=Tryz.sizeOf278
 v171:=Tryz.zeroValue278
 t173:=Tryz.underlying280
 a173:=Tryz.isAgg280
 z173:=Tryz.sizeOf280
 v173:=Tryz.zeroValue280
 t212:=Tryz.underlying288
 a212:=Tryz.isAgg288
 z212:=Tryz.sizeOf288
 v212:=Tryz.zeroValue288
 t213:=Tryz.underlying289
 a213:=Tryz.isAgg289
 z213:=Tryz.sizeOf289
 t232:=Tryz.underlying290
 a232:=Tryz.isAgg290
 z232:=Tryz.sizeOf290
 v232:=Tryz.zeroValue290
 t233:=Tryz.underlying291
 a233:=Tryz.isAgg291
 z233:=Tryz.sizeOf291
 v233:=Tryz.zeroValue291
 g17:=aj
 g18:=aj
 g19:=aj
 i0:=aj
 i2:=aj
 i3:=aj
 i4:=aj
 i5:=aj
 i9:=aj
 i20:=aj
 i37:=aj
 i46:=aj
 i51:=aj
 i53:=aj
 i171:=aj
 i173:=aj
 i212:=aj
 i232:=aj
 i233:=aj
 m17:=aj
 m18:=aj
 m19:=by kernel_rfl }
def Tryz.lays156_ren:Go.Shelf.Ren:=⟨fun | 156=>162 | 165=>203 | 166=>204 | 169=>205 | 240=>217 | 241=>218 | 276=>236 | 277=>237 | n=>n,fun | 31=>228 | 9=>9 | 3=>3 | 4=>4 | 0=>0 | 20=>20 | 72=>257 | 76=>261 | 70=>255 | 37=>46 | 75=>260 | 127=>274 | 164=>282 | 5=>5 | 80=>263 | n=>n,fun | n=>n⟩
theorem Tryz.lays156:Go.Proofs.Lays.n156 Tryz.prog Tryz.lays156_ren:={
 mixed:=aj
 f156:=bG Tryz.func162
 f165:=bG Tryz.func203
 f166:=bG Tryz.func204
 f169:=bG Tryz.func205
 f240:=bG Tryz.func217
 f241:=bG Tryz.func218
 f276:=bG Tryz.func236
 f277:=bG Tryz.func237
 t0:=Tryz.underlying0
 a0:=Tryz.isAgg0
 z0:=Tryz.sizeOf0
 v0:=Tryz.zeroValue0
 t3:=Tryz.underlying3
 a3:=Tryz.isAgg3
 z3:=Tryz.sizeOf3
 v3:=Tryz.zeroValue3
 t4:=Tryz.underlying4
 a4:=Tryz.isAgg4
 z4:=Tryz.sizeOf4
 v4:=Tryz.zeroValue4
 t9:=Tryz.underlying9
 a9:=Tryz.isAgg9
 z9:=Tryz.sizeOf9
 v9:=Tryz.zeroValue9
 t20:=Tryz.underlying20
 a20:=Tryz.isAgg20
 z20:=Tryz.sizeOf20
 v20:=Tryz.zeroValue20
 t31:=Tryz.underlying228
 a31:=Tryz.isAgg228
 z31:=Tryz.sizeOf228
 v31:=Tryz.zeroValue228
 t37:=Tryz.underlying46
 a37:=Tryz.isAgg46
 z37:=Tryz.sizeOf46
 v37:=Tryz.zeroValue46
 t70:=Tryz.underlying255
 a70:=Tryz.isAgg255
 z70:=Tryz.sizeOf255
 v70:=Tryz.zeroValue255
 t72:=Tryz.underlying257
 a72:=Tryz.isAgg257
 z72:=Tryz.sizeOf257
 v72:=Tryz.zeroValue257
 t75:=Tryz.underlying260
 a75:=Tryz.isAgg260
 z75:=Tryz.sizeOf260
 v75:=Tryz.zeroValue260
 t76:=Tryz.underlying261
 a76:=Tryz.isAgg261
 z76:=Tryz.sizeOf261
 v76:=Tryz.zeroValue261
 t127:=Tryz.underlying274
 a127:=Tryz.isAgg274
 z127:=Tryz.sizeOf274
 v127:=Tryz.zeroValue274
 t164:=Tryz.underlying282
 a164:=Tryz.isAgg282
 z164:=Tryz.sizeOf282
 v164:=Tryz.zeroValue282 }
theorem Tryz.bx156:Builder.Extra Tryz.prog Tryz.lays156_ren:={
 sizeBuilder:=aj
 liesBuilder:=aj
 t5:=Tryz.underlying5
 a5:=Tryz.isAgg5
 z5:=Tryz.sizeOf5
 v5:=Tryz.zeroValue5
 infoByte:=aj
 cellsByte:=aj
 sizeByte:=aj
 neB5:=by decide }
end Go.Proofs
end
section
set_option maxRecDepth 100000
namespace Rg
open Go Go.Proofs Go.Proofs.YtaiokglcgiemnaaGreatDoor
namespace Seat
def tbl:List Nat:=[2,1000001,1000002,1000003,1000004,1000005,1000006,1000007,1000008,30,1000010,25,24,16,1000014,1000015,1000016,163,98,1000019,50,137,1000022,74,195,1000025,1000026,14,1000028,1000029,1000030,1000031,97,13,66,1000035,73,67,65,45,28,1000041,1000042,146,147,148,144,117,82,215,1000050,42,1000052,1000053,1000054,1000055,43,1000057,1000058,1000059,33,71,70,72,75,92,54,197,134,55,86,87,88,89,35,36,76,77,78,118,119,120,121,122,139,140,141,142,143,188,18,135,136,80,81,168,169,170,171,172,173,174,175,176,177,178,179,180,181,189,190,191,192,193,194,196,213,46,47,48,123,124,125,126,127,128,129,130,131,132,133,206,207,208,209,210,211,214,37,182,183,184,185,186,187,219,220,221,222,223,224,225,226,227,228,229,230,231,83,38,212,238,239,240,241,242,247,274,1000168,1000169,1000170,1000171,1000172,1000173,1000174,1000175,93,1000177,1000178,110,57,1000181,49,1000183,1000184,1000185,1000186,99,102,103,100,101,104,94,95,149,150,1000197,156,154,151,152,153,155,145,198,105,157,1000208,1000209,1000210,1000211,1000212,1000213,1000214,1000215,1000216,1000217,1000218,1000219,1000220,1000221,1000222,1000223,1000224,1000225,1000226,1000227,1000228,1000229,1000230,1000231,1000232,1000233,1000234,1000235,1000236,1000237,1000238,1000239,161,1000241,1000242,1000243,1000244,1000245,205,1000247,1000248,1000249,1000250,1000251,1000252,1000253,1000254,1000255,1000256,202,204,162,1000260,1000261,1000262,1000263,1000264,216,217,203,1000268,232,233,234,235,218,1000274,243,244,245,246,248,249,1000281,1000282,1000283,1000284,1000285,1000286,1000287,1000288,1000289,1000290,1000291,1000292,1000293,1000294,1000295,1000296,1000297,1000298,1000299,1000300,1000301,1000302,1000303,1000304,1000305,1000306,1000307,1000308,1000309,1000310,1000311,1000312,1000313,1000314,1000315,1000316,1000317,1000318,1000319,1000320,1000321,1000322,1000323,1000324,1000325,1000326,1000327,3,4,5,6,7,8,9,10,11,12,15,17,19,20,21,22,23,26,27,29,31,32,34,39,40,41,44,51,52,53,56,58,59,60,61,62,63,64,68,69,79,84,85,90,91,96,106,107,108,109,111,112,113,114,115,116,138,158,159,160,164,165,166,167,199,200,201,1000395,1000396,1000397,1000398,1000399,1000400,1000401,1000402,1000403,1000404,1000405,1000406,1000407,1000408,1000409,1000410,1000411,1000412,1000413,1000414,1000415,1000416,1000417,1000418,1000419,1000420,1000421,1000422,1000423,1000424,1000425,1000426,1000427,1000428,1000429,1000430,1000431,1000432,1000433,1000434,1000435,1000436,1000437,1000438,1000439,1000440]
def I:Inv:=⟨fun f=>tbl.findIdx? (· ==f),fun g=>if g=0 then some 0 else if g=1 then some 2 else none,some 257⟩
def N:Nam:=⟨fun k=>tbl.getD k 0,fun k=>[0,0,1].getD k 0,G,CR Tryz.prog I,257,5⟩
def ar (s:List Nat):Raws:=⟨[52,53,54,57,60,70,74,75,76,77,83,93,97,120,121,122,123,124,125,127,128,136,139,141,142,143,158,160,199,200,202,203,236,241,244,245,246,258,260,261,295,300,301,302,310,315,317,322,323,324,326,350,353,356,361,362,363,364,365,368,375,376,378,379,380,381,382,386,387,388,389,390,391,392,393,425,426],s,[32,78,198]⟩
def Ent (q:Nat×F):Prop:=(∃rf rw L raw,Tryz.prog.funcs[N.nm q.1]? =some rf/\po Tryz.prog I rw L raw rf=some q.2)\/ ∃e,q.2.body= .ext e/\pu Tryz.prog N q.1 e
theorem e9:Ent (9,f9):=.inl ⟨Tryz.f30,ar [],[5,1],false,Tryz.func30,aj⟩
theorem e12:Ent (12,f12):=.inl ⟨Tryz.f24,ar [],[3,2,1],false,Tryz.func24,aj⟩
theorem e13:Ent (13,f13):=.inl ⟨Tryz.f16,ar [],[3,2,1],false,Tryz.func16,aj⟩
theorem e17:Ent (17,f17):=.inl ⟨Tryz.f163,ar [],[3,2],false,Tryz.func163,aj⟩
theorem e18:Ent (18,f18):=.inl ⟨Tryz.f98,ar [],[9,6,5,4,3],false,Tryz.func98,aj⟩
theorem e20:Ent (20,f20):=.inl ⟨Tryz.f50,ar [],[3],false,Tryz.func50,aj⟩
theorem e21:Ent (21,f21):=.inl ⟨Tryz.f137,ar [],[4,3],false,Tryz.func137,aj⟩
theorem e23:Ent (23,f23):=.inl ⟨Tryz.f74,ar [],[2],false,Tryz.func74,aj⟩
theorem e24:Ent (24,f24):=.inl ⟨Tryz.f195,ar [],[3],false,Tryz.func195,aj⟩
theorem e27:Ent (27,f27):=.inl ⟨Tryz.f14,ar [],[],false,Tryz.func14,aj⟩
theorem e32:Ent (32,f32):=.inl ⟨Tryz.f97,ar [],[],true,Tryz.func97,aj⟩
theorem e33:Ent (33,f33):=.inl ⟨Tryz.f13,ar [],[],false,Tryz.func13,aj⟩
theorem e36:Ent (36,f36):=.inl ⟨Tryz.f73,ar [],[1],false,Tryz.func73,aj⟩
theorem e38:Ent (38,f38):=.inl ⟨Tryz.f65,ar [],[1],false,Tryz.func65,aj⟩
theorem e39:Ent (39,f39):=.inl ⟨Tryz.f45,ar [],[1],false,Tryz.func45,aj⟩
theorem e40:Ent (40,f40):=.inl ⟨Tryz.f28,ar [],[],false,Tryz.func28,aj⟩
theorem e43:Ent (43,f43):=.inl ⟨Tryz.f146,ar [],[9,3,2],false,Tryz.func146,aj⟩
theorem e44:Ent (44,f44):=.inl ⟨Tryz.f147,ar [],[3,2],false,Tryz.func147,aj⟩
theorem e45:Ent (45,f45):=.inl ⟨Tryz.f148,ar [],[10,8,7,6,5,4,3],false,Tryz.func148,aj⟩
theorem e46:Ent (46,f46):=.inl ⟨Tryz.f144,ar [],[3],false,Tryz.func144,aj⟩
theorem e47:Ent (47,f47):=.inl ⟨Tryz.f117,ar [],[2],false,Tryz.func117,aj⟩
theorem e48:Ent (48,f48):=.inl ⟨Tryz.f82,ar [],[1],false,Tryz.func82,aj⟩
theorem e49:Ent (49,f49):=.inl ⟨Tryz.f215,ar [],[3],false,Tryz.func215,aj⟩
theorem e51:Ent (51,f51):=.inl ⟨Tryz.f42,ar [7],[],false,Tryz.func42,aj⟩
theorem e56:Ent (56,f56):=.inl ⟨Tryz.f43,ar [],[7],false,Tryz.func43,aj⟩
theorem e60:Ent (60,f60):=.inl ⟨Tryz.f33,ar [],[],true,Tryz.func33,aj⟩
theorem e61:Ent (61,f61):=.inl ⟨Tryz.f71,ar [],[4],false,Tryz.func71,aj⟩
theorem e62:Ent (62,f62):=.inl ⟨Tryz.f70,ar [],[4],false,Tryz.func70,aj⟩
theorem e63:Ent (63,f63):=.inl ⟨Tryz.f72,ar [],[8,7,6],false,Tryz.func72,aj⟩
theorem e64:Ent (64,f64):=.inl ⟨Tryz.f75,ar [],[13,5,1],false,Tryz.func75,aj⟩
theorem e65:Ent (65,f65):=.inl ⟨Tryz.f92,ar [],[1],false,Tryz.func92,aj⟩
theorem e66:Ent (66,f66):=.inl ⟨Tryz.f54,ar [],[],false,Tryz.func54,aj⟩
theorem e67:Ent (67,f67):=.inl ⟨Tryz.f197,ar [],[9,5,4],false,Tryz.func197,aj⟩
theorem e68:Ent (68,f68):=.inl ⟨Tryz.f134,ar [],[2],false,Tryz.func134,aj⟩
theorem e69:Ent (69,f69):=.inl ⟨Tryz.f55,ar [],[3],false,Tryz.func55,aj⟩
theorem e70:Ent (70,f70):=.inl ⟨Tryz.f86,ar [38],[],true,Tryz.func86,aj⟩
theorem e71:Ent (71,f71):=.inl ⟨Tryz.f87,ar [],[],false,Tryz.func87,aj⟩
theorem e72:Ent (72,f72):=.inl ⟨Tryz.f88,ar [],[],false,Tryz.func88,aj⟩
theorem e73:Ent (73,f73):=.inl ⟨Tryz.f89,ar [],[3],false,Tryz.func89,aj⟩
theorem e74:Ent (74,f74):=.inr ⟨.sortI,rfl,ZI Tryz.lays189 aj (rf:=Tryz.f35) ⟨Tryz.func35,aj,aj⟩⟩
theorem e75:Ent (75,f75):=.inr ⟨.compactI,rfl,YF Tryz.lays2n20 aj (rf:=Tryz.f36) ⟨Tryz.func36,aj,aj⟩⟩
theorem e76:Ent (76,f76):=.inl ⟨Tryz.f76,ar [13],[],true,Tryz.func76,aj⟩
theorem e77:Ent (77,f77):=.inl ⟨Tryz.f77,ar [],[],true,Tryz.func77,aj⟩
theorem e78:Ent (78,f78):=.inl ⟨Tryz.f78,ar [],[1],true,Tryz.func78,aj⟩
theorem e79:Ent (79,f79):=.inl ⟨Tryz.f118,ar [],[6,4,1],false,Tryz.func118,aj⟩
theorem e80:Ent (80,f80):=.inl ⟨Tryz.f119,ar [],[5,1],false,Tryz.func119,aj⟩
theorem e81:Ent (81,f81):=.inl ⟨Tryz.f120,ar [],[5,1],false,Tryz.func120,aj⟩
theorem e82:Ent (82,f82):=.inl ⟨Tryz.f121,ar [],[6,5,1],false,Tryz.func121,aj⟩
theorem e83:Ent (83,f83):=.inl ⟨Tryz.f122,ar [],[14,12],true,Tryz.func122,aj⟩
theorem e84:Ent (84,f84):=.inl ⟨Tryz.f139,ar [],[5,1],false,Tryz.func139,aj⟩
theorem e85:Ent (85,f85):=.inl ⟨Tryz.f140,ar [],[4,1],false,Tryz.func140,aj⟩
theorem e86:Ent (86,f86):=.inl ⟨Tryz.f141,ar [],[4,1],false,Tryz.func141,aj⟩
theorem e87:Ent (87,f87):=.inl ⟨Tryz.f142,ar [],[4,1],false,Tryz.func142,aj⟩
theorem e88:Ent (88,f88):=.inl ⟨Tryz.f143,ar [],[13,6,2],false,Tryz.func143,aj⟩
theorem e89:Ent (89,f89):=.inl ⟨Tryz.f188,ar [],[1],false,Tryz.func188,aj⟩
theorem e90:Ent (90,f90):=.inl ⟨Tryz.f18,ar [],[3],false,Tryz.func18,aj⟩
theorem e91:Ent (91,f91):=.inl ⟨Tryz.f135,ar [],[],false,Tryz.func135,aj⟩
theorem e92:Ent (92,f92):=.inl ⟨Tryz.f136,ar [],[],false,Tryz.func136,aj⟩
theorem e95:Ent (95,f95):=.inl ⟨Tryz.f168,ar [],[],false,Tryz.func168,aj⟩
theorem e96:Ent (96,f96):=.inl ⟨Tryz.f169,ar [],[],false,Tryz.func169,aj⟩
theorem e97:Ent (97,f97):=.inl ⟨Tryz.f170,ar [],[5],true,Tryz.func170,aj⟩
theorem e98:Ent (98,f98):=.inl ⟨Tryz.f171,ar [],[1],false,Tryz.func171,aj⟩
theorem e99:Ent (99,f99):=.inl ⟨Tryz.f172,ar [],[5,4],false,Tryz.func172,aj⟩
theorem VO:Ent (100,f100):=.inl ⟨Tryz.f173,ar [],[2],false,Tryz.func173,aj⟩
theorem VN:Ent (101,f101):=.inl ⟨Tryz.f174,ar [],[],false,Tryz.func174,aj⟩
theorem VM:Ent (102,f102):=.inl ⟨Tryz.f175,ar [],[],false,Tryz.func175,aj⟩
theorem VL:Ent (103,f103):=.inl ⟨Tryz.f176,ar [],[],false,Tryz.func176,aj⟩
theorem Wv:Ent (104,f104):=.inl ⟨Tryz.f177,ar [],[],false,Tryz.func177,aj⟩
theorem Wu:Ent (105,f105):=.inl ⟨Tryz.f178,ar [],[13,12,7,6,4],false,Tryz.func178,aj⟩
theorem TX:Ent (106,f106):=.inl ⟨Tryz.f179,ar [],[],false,Tryz.func179,aj⟩
theorem TY:Ent (107,f107):=.inl ⟨Tryz.f180,ar [],[],false,Tryz.func180,aj⟩
theorem TZ:Ent (108,f108):=.inl ⟨Tryz.f181,ar [],[2],false,Tryz.func181,aj⟩
theorem T0:Ent (109,f109):=.inl ⟨Tryz.f189,ar [],[],false,Tryz.func189,aj⟩
theorem T4:Ent (110,f110):=.inl ⟨Tryz.f190,ar [],[],false,Tryz.func190,aj⟩
theorem T5:Ent (111,f111):=.inl ⟨Tryz.f191,ar [],[1],false,Tryz.func191,aj⟩
theorem T6:Ent (112,f112):=.inl ⟨Tryz.f192,ar [],[5,4],false,Tryz.func192,aj⟩
theorem T7:Ent (113,f113):=.inl ⟨Tryz.f193,ar [],[],false,Tryz.func193,aj⟩
theorem T8:Ent (114,f114):=.inl ⟨Tryz.f194,ar [],[5,3],false,Tryz.func194,aj⟩
theorem T9:Ent (115,f115):=.inl ⟨Tryz.f196,ar [],[5,4],false,Tryz.func196,aj⟩
theorem WD:Ent (116,f116):=.inl ⟨Tryz.f213,ar [],[],false,Tryz.func213,aj⟩
theorem WC:Ent (117,f117):=.inl ⟨Tryz.f46,ar [],[],false,Tryz.func46,aj⟩
theorem WB:Ent (118,f118):=.inl ⟨Tryz.f47,ar [],[],false,Tryz.func47,aj⟩
theorem WA:Ent (119,f119):=.inl ⟨Tryz.f48,ar [],[2],false,Tryz.func48,aj⟩
theorem Wz:Ent (131,CX):=.inl ⟨Tryz.f206,ar [],[],false,Tryz.func206,aj⟩
theorem Wy:Ent (132,CV):=.inl ⟨Tryz.f207,ar [],[],false,Tryz.func207,aj⟩
theorem Wx:Ent (133,Ej):=.inl ⟨Tryz.f208,ar [],[],false,Tryz.func208,aj⟩
theorem Ww:Ent (134,f134):=.inl ⟨Tryz.f209,ar [],[],false,Tryz.func209,aj⟩
theorem V7:Ent (135,f135):=.inl ⟨Tryz.f210,ar [],[0],false,Tryz.func210,aj⟩
theorem WG:Ent (136,f136):=.inl ⟨Tryz.f211,ar [],[],true,Tryz.func211,aj⟩
theorem TH:Ent (137,f137):=.inl ⟨Tryz.f214,ar [],[12,5,3],false,Tryz.func214,aj⟩
theorem TI:Ent (138,f138):=.inl ⟨Tryz.f37,ar [],[1],false,Tryz.func37,aj⟩
theorem TJ:Ent (145,f145):=.inl ⟨Tryz.f219,ar [],[],false,Tryz.func219,aj⟩
theorem TK:Ent (146,f146):=.inl ⟨Tryz.f220,ar [],[],false,Tryz.func220,aj⟩
theorem TL:Ent (147,f147):=.inl ⟨Tryz.f221,ar [],[5,3],false,Tryz.func221,aj⟩
theorem TM:Ent (148,f148):=.inl ⟨Tryz.f222,ar [],[11,9,5,3],false,Tryz.func222,aj⟩
theorem TN:Ent (149,f149):=.inl ⟨Tryz.f223,ar [],[5],false,Tryz.func223,aj⟩
theorem TO:Ent (150,f150):=.inl ⟨Tryz.f224,ar [],[5,3],false,Tryz.func224,aj⟩
theorem TP:Ent (151,f151):=.inl ⟨Tryz.f225,ar [],[5,3],false,Tryz.func225,aj⟩
theorem TQ:Ent (152,f152):=.inl ⟨Tryz.f226,ar [],[5,3],false,Tryz.func226,aj⟩
theorem TR:Ent (153,f153):=.inl ⟨Tryz.f227,ar [],[5,3],false,Tryz.func227,aj⟩
theorem TS:Ent (154,f154):=.inl ⟨Tryz.f228,ar [],[3],false,Tryz.func228,aj⟩
theorem TT:Ent (155,f155):=.inl ⟨Tryz.f229,ar [],[2],false,Tryz.func229,aj⟩
theorem TU:Ent (156,f156):=.inl ⟨Tryz.f230,ar [],[3,2],false,Tryz.func230,aj⟩
theorem TV:Ent (157,f157):=.inl ⟨Tryz.f231,ar [],[0],false,Tryz.func231,aj⟩
theorem TW:Ent (158,f158):=.inl ⟨Tryz.f83,ar [],[3],true,Tryz.func83,aj⟩
theorem Wt:Ent (159,f159):=.inl ⟨Tryz.f38,ar [],[],false,Tryz.func38,aj⟩
theorem Ws:Ent (161,f161):=.inl ⟨Tryz.f238,ar [],[6,2],false,Tryz.func238,aj⟩
theorem Wr:Ent (162,f162):=.inl ⟨Tryz.f239,ar [],[6],false,Tryz.func239,aj⟩
theorem Wq:Ent (163,f163):=.inl ⟨Tryz.f240,ar [],[2],false,Tryz.func240,aj⟩
theorem Wp:Ent (164,f164):=.inl ⟨Tryz.f241,ar [],[],false,Tryz.func241,aj⟩
theorem Wo:Ent (165,f165):=.inl ⟨Tryz.f242,ar [],[1],false,Tryz.func242,aj⟩
theorem Wn:Ent (166,f166):=.inl ⟨Tryz.f247,ar [],[1],false,Tryz.func247,aj⟩
theorem Wm:Ent (176,f176):=.inl ⟨Tryz.f93,ar [],[1],false,Tryz.func93,aj⟩
theorem Wl:Ent (179,f179):=.inl ⟨Tryz.f110,ar [],[7,5,3],false,Tryz.func110,aj⟩
theorem Wk:Ent (180,f180):=.inl ⟨Tryz.f57,ar [],[6,4],false,Tryz.func57,aj⟩
theorem Wj:Ent (182,Ei):=.inl ⟨Tryz.f49,ar [],[5,3],false,Tryz.func49,aj⟩
theorem Wi:Ent (187,CT):=.inl ⟨Tryz.f99,ar [],[6,5,3],false,Tryz.func99,aj⟩
theorem Wh:Ent (188,f188):=.inl ⟨Tryz.f102,ar [],[7,2],false,Tryz.func102,aj⟩
theorem Wg:Ent (189,f189):=.inl ⟨Tryz.f103,ar [],[9,4],false,Tryz.func103,aj⟩
theorem Wf:Ent (190,f190):=.inl ⟨Tryz.f100,ar [],[],false,Tryz.func100,aj⟩
theorem We:Ent (191,f191):=.inl ⟨Tryz.f101,ar [],[7,6,3],false,Tryz.func101,aj⟩
theorem Wd:Ent (192,f192):=.inl ⟨Tryz.f104,ar [],[11,9,8,7,6,4,3],false,Tryz.func104,aj⟩
theorem Wc:Ent (193,f193):=.inl ⟨Tryz.f94,ar [],[3,2],false,Tryz.func94,aj⟩
theorem Wb:Ent (194,f194):=.inl ⟨Tryz.f95,ar [],[1],false,Tryz.func95,aj⟩
theorem Wa:Ent (195,f195):=.inl ⟨Tryz.f149,ar [],[1],false,Tryz.func149,aj⟩
theorem V':Ent (196,f196):=.inl ⟨Tryz.f150,ar [],[11,9,3,2],false,Tryz.func150,aj⟩
theorem V_:Ent (198,f198):=.inr ⟨.cloneI,rfl,kas Tryz.lays2n15 aj (rf:=Tryz.f156) ⟨Tryz.func156,aj,aj⟩⟩
theorem V9:Ent (199,f199):=.inl ⟨Tryz.f154,ar [],[3],true,Tryz.func154,aj⟩
theorem V8:Ent (200,f200):=.inl ⟨Tryz.f151,ar [37],[6],true,Tryz.func151,aj⟩
theorem WF:Ent (201,f201):=.inl ⟨Tryz.f152,ar [],[6,3],false,Tryz.func152,aj⟩
theorem WE:Ent (202,CD):=.inl ⟨Tryz.f153,ar [],[7,3,2,1],true,Tryz.func153,aj⟩
theorem UU:Ent (203,Cs):=.inl ⟨Tryz.f155,ar [],[],true,Tryz.func155,aj⟩
theorem UV:Ent (204,Cr):=.inl ⟨Tryz.f145,ar [],[3,2],false,Tryz.func145,aj⟩
theorem UW:Ent (205,Ci):=.inl ⟨Tryz.f198,ar [],[7,3,2],false,Tryz.func198,aj⟩
theorem UX:Ent (206,f206):=.inl ⟨Tryz.f105,ar [],[],false,Tryz.func105,aj⟩
theorem UY:Ent (207,f207):=.inl ⟨Tryz.f157,ar [],[],false,Tryz.func157,aj⟩
theorem kc9:Ent (240,f240):=.inr ⟨.itoa,rfl,ZK Tryz.laysM171 aj (q:=1) (j:=2) aj rfl aj (rf:=Tryz.f161) ⟨Tryz.func161,aj,aj⟩⟩
theorem UZ:Ent (259,wM):=.inr ⟨.joinS,rfl,ZJ Tryz.lays156 Tryz.bx156 aj (rf:=Tryz.f162) ⟨Tryz.func162,aj,aj⟩⟩
theorem Tu:Ent (332,f332):=.inl ⟨Tryz.f7,ar [],[4],false,Tryz.func7,aj⟩
theorem U0:Ent (334,CS):=.inl ⟨Tryz.f9,ar [],[1],false,Tryz.func9,aj⟩
theorem U1:Ent (335,CQ):=.inl ⟨Tryz.f10,ar [],[3],false,Tryz.func10,aj⟩
theorem U2:Ent (336,CO):=.inl ⟨Tryz.f11,ar [],[9,8,3],false,Tryz.func11,aj⟩
theorem Tv:Ent (339,RU):=.inl ⟨Tryz.f17,ar [],[2],false,Tryz.func17,aj⟩
theorem Uu:Ent (340,FI):=.inl ⟨Tryz.f19,ar [],[15,13,11,10,8,7,6,4],false,Tryz.func19,aj⟩
theorem Uv:Ent (341,CF):=.inl ⟨Tryz.f20,ar [],[18,17,13,12,5],false,Tryz.func20,aj⟩
theorem Uw:Ent (342,Eg):=.inl ⟨Tryz.f21,ar [],[2],false,Tryz.func21,aj⟩
theorem Ux:Ent (343,f343):=.inl ⟨Tryz.f22,ar [],[20,17,14,5],false,Tryz.func22,aj⟩
theorem Uy:Ent (345,Ee):=.inl ⟨Tryz.f26,ar [],[8,3],false,Tryz.func26,aj⟩
theorem Tw:Ent (346,PE):=.inl ⟨Tryz.f27,ar [],[15,12,8,5],false,Tryz.func27,aj⟩
theorem Uz:Ent (347,D'):=.inl ⟨Tryz.f29,ar [],[8,7,6,5,4,3,2],false,Tryz.func29,aj⟩
theorem UA:Ent (348,D_):=.inl ⟨Tryz.f31,ar [],[3],false,Tryz.func31,aj⟩
theorem UB:Ent (349,D2):=.inl ⟨Tryz.f32,ar [],[3],false,Tryz.func32,aj⟩
theorem UC:Ent (350,DZ):=.inl ⟨Tryz.f34,ar [],[],true,Tryz.func34,aj⟩
theorem UD:Ent (354,DX):=.inl ⟨Tryz.f44,ar [],[5,3],false,Tryz.func44,aj⟩
theorem UE:Ent (355,DW):=.inl ⟨Tryz.f51,ar [],[11,7,6,3],false,Tryz.func51,aj⟩
theorem UF:Ent (356,DV):=.inl ⟨Tryz.f52,ar [],[6,3,2,1],true,Tryz.func52,aj⟩
theorem UG:Ent (357,DK):=.inl ⟨Tryz.f53,ar [],[2],false,Tryz.func53,aj⟩
theorem UH:Ent (358,DJ):=.inl ⟨Tryz.f56,ar [],[],false,Tryz.func56,aj⟩
theorem UI:Ent (359,DI):=.inl ⟨Tryz.f58,ar [],[2],false,Tryz.func58,aj⟩
theorem UJ:Ent (360,DH):=.inl ⟨Tryz.f59,ar [],[3],false,Tryz.func59,aj⟩
theorem UK:Ent (361,DG):=.inl ⟨Tryz.f60,ar [],[15,14,12,9,3],true,Tryz.func60,aj⟩
theorem UL:Ent (362,Dz):=.inl ⟨Tryz.f61,ar [],[8],true,Tryz.func61,aj⟩
theorem UM:Ent (363,Dw):=.inl ⟨Tryz.f62,ar [55],[18,17],true,Tryz.func62,aj⟩
theorem UN:Ent (364,Du):=.inl ⟨Tryz.f63,ar [],[],true,Tryz.func63,aj⟩
theorem UO:Ent (365,Ds):=.inl ⟨Tryz.f64,ar [],[7],true,Tryz.func64,aj⟩
theorem UP:Ent (366,C'):=.inl ⟨Tryz.f68,ar [],[3],false,Tryz.func68,aj⟩
theorem UQ:Ent (367,C_):=.inl ⟨Tryz.f69,ar [],[12,7,6,3],false,Tryz.func69,aj⟩
theorem UR:Ent (368,FC):=.inl ⟨Tryz.f79,ar [],[],true,Tryz.func79,aj⟩
theorem US:Ent (371,C3):=.inl ⟨Tryz.f90,ar [],[9,7,5],false,Tryz.func90,aj⟩
theorem UT:Ent (372,EP):=.inl ⟨Tryz.f91,ar [],[],false,Tryz.func91,aj⟩
theorem T_:Ent (373,EN):=.inl ⟨Tryz.f96,ar [],[3],false,Tryz.func96,aj⟩
theorem T':Ent (374,EJ):=.inl ⟨Tryz.f106,ar [],[3],false,Tryz.func106,aj⟩
theorem Ua:Ent (375,EH):=.inl ⟨Tryz.f107,ar [24],[],true,Tryz.func107,aj⟩
theorem Ub:Ent (376,EE):=.inl ⟨Tryz.f108,ar [],[2],true,Tryz.func108,aj⟩
theorem Uc:Ent (377,EB):=.inl ⟨Tryz.f109,ar [13,17,34,38],[8,1],false,Tryz.func109,aj⟩
theorem Ud:Ent (378,Ew):=.inl ⟨Tryz.f111,ar [],[7],true,Tryz.func111,aj⟩
theorem Ue:Ent (379,Ep):=.inl ⟨Tryz.f112,ar [],[3],true,Tryz.func112,aj⟩
theorem Uf:Ent (380,En):=.inl ⟨Tryz.f113,ar [],[],true,Tryz.func113,aj⟩
theorem Ug:Ent (381,El):=.inl ⟨Tryz.f114,ar [],[3],true,Tryz.func114,aj⟩
theorem Uh:Ent (382,Fl):=.inl ⟨Tryz.f115,ar [15,22,28],[3],true,Tryz.func115,aj⟩
theorem Ui:Ent (383,Fk):=.inl ⟨Tryz.f116,ar [],[8,1],false,Tryz.func116,aj⟩
theorem Uj:Ent (384,Fe):=.inl ⟨Tryz.f138,ar [],[3,2],false,Tryz.func138,aj⟩
theorem Uk:Ent (385,Fa):=.inl ⟨Tryz.f158,ar [],[1],false,Tryz.func158,aj⟩
theorem Ul:Ent (386,E'):=.inl ⟨Tryz.f159,ar [],[],true,Tryz.func159,aj⟩
theorem Um:Ent (387,E_):=.inl ⟨Tryz.f160,ar [],[],true,Tryz.func160,aj⟩
theorem Un:Ent (388,E4):=.inl ⟨Tryz.f164,ar [],[],true,Tryz.func164,aj⟩
theorem Uo:Ent (389,Fx):=.inl ⟨Tryz.f165,ar [],[],true,Tryz.func165,aj⟩
theorem Up:Ent (390,Fw):=.inl ⟨Tryz.f166,ar [],[],true,Tryz.func166,aj⟩
theorem Uq:Ent (391,ES):=.inl ⟨Tryz.f167,ar [],[],true,Tryz.func167,aj⟩
theorem Ur:Ent (392,EQ):=.inl ⟨Tryz.f199,ar [20,76],[9,8,6],true,Tryz.func199,aj⟩
theorem Us:Ent (393,Fp):=.inl ⟨Tryz.f200,ar [32],[4],true,Tryz.func200,aj⟩
theorem Ut:Ent (394,Fo):=.inl ⟨Tryz.f201,ar [],[11,1],false,Tryz.func201,aj⟩
theorem all: ∀q∈wQ,Ent q:=by
 unfold wQ;simp only[List.forall_mem_cons];exact⟨e9,e12,e13,e17,e18,e20,e21,e23,e24,e27,e32,e33,e36,e38,e39,e40,e43,e44,e45,e46,e47,e48,e49,e51,e56,e60,e61,e62,e63,e64,e65,e66,e67,e68,e69,e70,e71,e72,e73,e74,e75,e76,e77,e78,e79,e80,e81,e82,e83,e84,e85,e86,e87,e88,e89,e90,e91,e92,e95,e96,e97,e98,e99,VO,VN,VM,VL,Wv,Wu,TX,TY,TZ,T0,T4,T5,T6,T7,T8,T9,WD,WC,WB,WA,Wz,Wy,Wx,Ww,V7,WG,TH,TI,TJ,TK,TL,TM,TN,TO,TP,TQ,TR,TS,TT,TU,TV,TW,Wt,Ws,Wr,Wq,Wp,Wo,Wn,Wm,Wl,Wk,Wj,Wi,Wh,Wg,Wf,We,Wd,Wc,Wb,Wa,V',V_,V9,V8,WF,WE,UU,UV,UW,UX,UY,kc9,UZ,Tu,U0,U1,U2,Tv,Uu,Uv,Uw,Ux,Uy,Tw,Uz,UA,UB,UC,UD,UE,UF,UG,UH,UI,UJ,UK,UL,UM,UN,UO,UP,UQ,UR,US,UT,T_,T',Ua,Ub,Uc,Ud,Ue,Uf,Ug,Uh,Ui,Uj,Uk,Ul,Um,Un,Uo,Up,Uq,Ur,Us,Ut,fun _ h=>by cases h⟩
end Seat
end Rg
end
section
namespace Rg
open Go
abbrev ti (n:Int):T:=.int .i64 n
abbrev tb (b:Bool):T:=.bool b
abbrev ints (l:List Int):T:=.sl (l.map fun n=>[ti n])
@[go_sem]theorem zFu (a b:Int):(a==b)=decide (a=b):=by by_cases h:a=b<;>simp[h]
@[go_sem]theorem zFt (a b:Int):(a != b)=decide (¬a=b):=by by_cases h:a=b<;>simp[h]
@[go_sem]theorem zFq:IntKind.i64.wrap 0=0:=by rw[IntKind.wrap_i64];rfl
@[go_sem]theorem zFp:IntKind.i64.wrap 1=1:=by rw[IntKind.wrap_i64];rfl
@[go_sem]theorem zFo:IntKind.i64.wrap 2=2:=by rw[IntKind.wrap_i64];rfl
@[go_sem]theorem zFn:IntKind.i64.wrap 3=3:=by rw[IntKind.wrap_i64];rfl
@[go_sem]theorem zC0:IntKind.i64.wrap (-1)= -1:=by rw[IntKind.wrap_i64];rfl
inductive Expr where
 | mk (op w n:Int) (kids:List Expr)
 deriving Inhabited
namespace Expr
def op:Expr->Int | .mk o _ _ _=>o
def w:Expr->Int | .mk _ w _ _=>w
def n:Expr->Int | .mk _ _ n _=>n
def kids:Expr->List Expr | .mk _ _ _ k=>k
@[go_sem]theorem op_mk (o w n:Int) (k:List Expr):(Expr.mk o w n k).op=o:=rfl
@[go_sem]theorem w_mk (o w n:Int) (k:List Expr):(Expr.mk o w n k).w=w:=rfl
@[go_sem]theorem n_mk (o w n:Int) (k:List Expr):(Expr.mk o w n k).n=n:=rfl
@[go_sem]theorem kids_mk (o w n:Int) (k:List Expr):(Expr.mk o w n k).kids=k:=rfl
mutual
def enc:Expr->List T
 | .mk o w n k=>[ti o,ti w,ti n,.sl (tL k)]
def tL:List Expr->List (List T)
 | []=>[]
 | e::r=>enc e::tL r
end
theorem SQ: ∀l:List Expr,tL l=l.map enc
 | []=>rfl
 | e::r=>by rw[tL,SQ r];rfl
theorem enc_eq (e:Expr):e.enc=[ti e.op,ti e.w,ti e.n,.sl (e.kids.map enc)]:=by
 cases e;simp only[enc,SQ,op,w,n,kids]
mutual
def size:Expr->Nat
 | .mk _ _ _ k=>uX k+1
def uX:List Expr->Nat
 | []=>0
 | e::r=>size e+uX r
end
theorem QF: ∀l:List Expr,uX l=(l.map size).sum
 | []=>rfl
 | e::r=>by rw[uX,QF r];rfl
theorem size_eq (e:Expr):e.size=(e.kids.map size).sum+1:=by
 cases e;simp only[size,QF,kids]
theorem size_pos (e:Expr):0<e.size:=by rw[size_eq];omega
theorem kae {e k:Expr} (h:k∈e.kids):k.size<e.size:=by
 rw[size_eq e]
 have:k.size<=(e.kids.map size).sum:=by
  generalize e.kids=l at h
  induction l with
  | nil=>simp at h
  | cons x r a=>
    simp only[aT,rh];rcases cj.1 h with rfl | h
    ·omega
    ·have:=a h;omega
 omega
theorem ind {P:Expr->Prop} (h: ∀e:Expr,(∀k∈e.kids,P k)->P e): ∀e,P e:=by
 intro e
 generalize d:e.size=n
 induction n using Nat.strongRecOn generalizing e with
 | _ n b=>exact h e fun k a=>b k.size (by have:=kae a;omega) k rfl
mutual
def allE (f:Expr->Bool):Expr->Bool
 | .mk o w n k=>f (.mk o w n k)&&uB f k
def uB (f:Expr->Bool):List Expr->Bool
 | []=>true
 | e::r=>allE f e&&uB f r
end
theorem QS (f:Expr->Bool): ∀l:List Expr,uB f l=l.all (allE f)
 | []=>rfl
 | e::r=>by rw[uB,QS f r];rfl
theorem allE_eq (f:Expr->Bool) (e:Expr):allE f e=(f e&&e.kids.all (allE f)):=by
 cases e;simp only[allE,QS,kids]
theorem allE_self {f:Expr->Bool} {e:Expr} (h:allE f e=true):f e=true:=by
 rw[allE_eq]at h;simp only[zF]at h;exact h.1
theorem allE_kid {f:Expr->Bool} {e k:Expr} (h:allE f e=true) (a:k∈e.kids):allE f k=true:=by
 rw[allE_eq]at h;simp only[zF,zN]at h;exact h.2 k a
theorem len_le_size (a:List Expr):a.length<=(a.map size).sum:=by
 induction a with
 | nil=>simp
 | cons x r b=>have:=size_pos x;simp only[d_,aT,rh];omega
theorem take_le_size (a:List Expr) (i:Nat):((a.take i).map size).sum<=(a.map size).sum:=by
 induction a generalizing i with
 | nil=>simp
 | cons x r b=>cases i with
   | zero=>simp
   | succ i=>have:=b i;simp only[List.take_succ_cons,aT,rh];omega
def kw (e:Expr) (i:Nat):Int:=(e.kids.getD i (.mk 0 0 0 [])).w
end Expr
structure Cell where
 name:ByteArray
 w:Int
 init:Int
 thread:Int
 ghost:Bool
 module:Int
 deriving Inhabited
def Cell.enc (c:Cell):List T:=[.str c.name,ti c.w,ti c.init,ti c.thread,tb c.ghost,ti c.module]
structure Assign where
 cell:Int
 to:Expr
 deriving Inhabited
def Assign.enc (a:Assign):List T:=ti a.cell::a.to.enc
structure Step where
 kind:Int
 fr:Int
 to:Int
 guard:Expr
 set:List Assign
 release:Bool
 target:Int
 module:Int
 deriving Inhabited
def Step.enc (s:Step):List T:=[ti s.kind,ti s.fr,ti s.to]++s.guard.enc++[.sl (s.set.map Assign.enc),tb s.release,ti s.target,ti s.module]
structure Loop where
 head:Int
 body:List Int
 variant:Expr
 deriving Inhabited
def Loop.enc (l:Loop):List T:=[ti l.head,ints l.body]++l.variant.enc
structure Thread where
 name:ByteArray
 points:Int
 asserts:List Expr
 modules:List Int
 steps:List Step
 loops:List Loop
 asleep:Bool
 deriving Inhabited
def Thread.enc (t:Thread):List T:=
 [.str t.name,ti t.points,.sl (t.asserts.map Expr.enc),ints t.modules,.sl (t.steps.map Step.enc),.sl (t.loops.map Loop.enc),tb t.asleep]
structure Contract where
 name:ByteArray
 owner:ByteArray
 rely:Expr
 guar:Expr
 frame:List Int
 deriving Inhabited
def Contract.enc (c:Contract):List T:=[.str c.name,.str c.owner]++c.rely.enc++c.guar.enc++[ints c.frame]
structure Lock where
 cell:Int
 inv:Expr
 module:Int
 deriving Inhabited
def Lock.enc (l:Lock):List T:=[ti l.cell]++l.inv.enc++[ti l.module]
structure Prog where
 cells:List Cell
 modules:List Contract
 locks:List Lock
 threads:List Thread
 deriving Inhabited
def Prog.enc (p:Prog):List T:=[.sl (p.cells.map Cell.enc),.sl (p.modules.map Contract.enc),.sl (p.locks.map Lock.enc),.sl (p.threads.map Thread.enc)]
structure Entry where
 cells:List Int
 values:List Int
 deriving Inhabited,DecidableEq
def Entry.enc (e:Entry):List T:=[ints e.cells,ints e.values]
structure Config where
 mem:List Int
 at_:List Int
 buf:List (List Entry)
 deriving Inhabited,DecidableEq
def Config.enc (c:Config):List T:=[ints c.mem,ints c.at_,.sl (c.buf.map fun b=>[.sl (b.map Entry.enc)])]
structure Choice where
 thread:Int
 step:Int
 cell:Int
 deriving Inhabited,DecidableEq
def Choice.enc (c:Choice):List T:=[ti c.thread,ti c.step,ti c.cell]
attribute [go_sem] Expr.enc_eq Cell.enc Assign.enc Step.enc Loop.enc Thread.enc Contract.enc Lock.enc Prog.enc Entry.enc Config.enc Choice.enc
def ag (l:List T):V:=.agg (l.map V.t)
theorem aB (i:Nat) (h:i<2^62):IntKind.i64.wrap ((i:Int)+1)=((i+1:Nat):Int):=by rw[bu aa];omega
theorem a_ {α:Type} {l:List α} {i:Nat} {x:α} (h:l[i]? =some x):l.take (i+1)=l.take i++[x]:=by
 rw[List.take_add_one,h];rfl
theorem kZ {i k:Nat} (h:i<=k):(2:Int)^i<=2^k:=by
 have:=rB (n:=2) aa h
 exact_mod_cast this
theorem iL (i:Nat):0<(2:Int)^i:=Int.pow_pos aa
theorem au {α:Type} {l:List α} {i:Nat} (h:i<l.length): ∃x,l[i]? =some x/\x∈l:=⟨l[i],zI h,mg h⟩
end Rg
end
section
namespace Rg
open Go
section
variable {H:Type} (enc:TypeId×Value->H) (P:Program) (W:World) (nm:Nat->Nat)
def j9 (cs:List Value) (xs:List T):Prop:=
 cs.length=xs.length/\ ∀(j:Nat) (x:T),xs[j]? =some x-> ∃v,cs[j]? =some v/\RepT W (fun r=>r<W.heap.size) nm v x
def Rd {α:Type} (n:Nat) (t:TypeId) (f:α->List T) (good:α->Prop):Prop:=
 ∀(cs:List Value) (x:DataW H×List MemPlace),DataW.trod enc P W 0 (fun _=>true) true n t cs=some x->(x.1.weights P t).all (· <=reachBytes)=true-> ∃a,good a/\j9 W nm cs (f a)
def RdF {α:Type} (n h:Nat) (d:List (TypeId×Nat)) (g:Nat) (f:α->List T) (good:α->Prop):Prop:=
 ∀(cs:List Value) (xs:List (DataW H×List MemPlace)),cs.length=h->xs.length=d.length->
  (∀(i:Nat) (b:TypeId×Nat),d[i]? =some b->DataW.trod enc P W 0 (fun _=>true) true n b.1 ((cs.drop b.2).take (P.cellsOf b.1))=xs[i]?)->
  (DataW.weightsEach P (d.map (·.1)) (xs.map (·.1))).all (· <=reachBytes)=true-> ∃a,good a/\j9 W nm (cs.drop g) (f a)
end
section
variable {H:Type} {enc:TypeId×Value->H} {P:Program} {W:World} {nm:Nat->Nat}
theorem j9.one {v:Value} {x:T} (h:RepT W (fun r=>r<W.heap.size) nm v x):j9 W nm [v] [x]:=
 ⟨rfl,fun j y a=>by
   cases j with
   | zero=>simp at a;subst a;exact⟨v,rfl,h⟩
   | succ j=>simp at a⟩
theorem j9.append {cs d:List Value} {xs ys:List T} (h:j9 W nm cs xs) (h':j9 W nm d ys):j9 W nm (cs++d) (xs++ys):=by
 refine⟨by simp[h.1,h'.1],fun j x a=> ?_⟩;rw[mK]at a⊢;rw[h.1];split at a
 ·rename_i b;rw[ah b];exact h.2 j x a
 ·rename_i b;rw[ac b];exact h'.2 _ x a
theorem Tb {k:IntKind} {t:TypeId} (a:P.underlying t=some (.int k)) (n:Nat):Rd enc P W nm n t (fun i:Int=>[.int k i]) (fun i=>(Lit.int k i).wf=true):=by
 intro cs x h _;obtain⟨i,rfl,_,b⟩:=DataW.trod_int a h;exact⟨i,b,.one (.int k i)⟩
theorem kbt {t:TypeId} (a:P.underlying t=some .bool) (n:Nat):Rd enc P W nm n t (fun b:Bool=>[.bool b]) (fun _=>True):=by
 intro cs x h _;obtain⟨b,rfl,_⟩:=DataW.trod_bool a h;exact⟨b,trivial,.one (.bool b)⟩
theorem kcS {t:TypeId} (b:P.underlying t=some .string) (n:Nat):Rd enc P W nm n t (fun s:ByteArray=>[.str s]) (fun s=>s.size<=reachBytes):=by
 intro cs x h a;obtain⟨s,rfl,rfl,_⟩:=DataW.trod_string b h;refine⟨s,?_,.one (.str s)⟩;simp only[DataW.weights,ey,qq,gv,aQ]at a;rw[qX]at a;exact a
theorem I0 {e:TypeId}: ∀{l:List (DataW H)},(DataW.weightsAll P e l).all (· <=reachBytes)=true-> ∀d∈l,(d.weights P e).all (· <=reachBytes)=true
 | [],_,d,a=>by simp at a
 | x::r,h,d,a=>by
   rw[DataW.weightsAll,nq,zF]at h;rcases cj.1 a with rfl | a
   ·exact h.1
   ·exact I0 h.2 d a
theorem cells?_get {base:Nat} {a:Addr} {n:Nat} {cs:List Value} (h:W.cells? base a n=some cs):cs.length=n/\ ∀j,j<n->W.cell? (a.add j)=cs[j]? :=by
 unfold World.cells? at h;split at h
 ·exact⟨al (mapM_some_length h),fun j b=>by simpa using mapM_some_get h j j (by simp[b])⟩
 ·simp at h
theorem cell?_spot {a:Addr} {v:Value} (h:W.cell? a=some v):a.spot=none/\a.block<W.heap.size:=by
 unfold World.cell? at h;split at h
 ·rename_i b;split at h
  ·simp at h
  ·rename_i f;refine⟨by cases d:a.spot<;>simp_all,?_⟩;have:=gQ.1 b;exact this.1
 ·simp at h
theorem KN {α:Type} {Q:Nat->α->Prop}: ∀(n:Nat),(∀i,i<n-> ∃a,Q i a)-> ∃l:List α,l.length=n/\ ∀(i:Nat) (a:α),l[i]? =some a->Q i a
 | 0,_=>⟨[],rfl,fun i a h=>by simp at h⟩
 | n+1,h=>by
   obtain⟨l,f,j⟩:=KN n (fun i hi=>h i aa);obtain⟨a,g⟩:=h n aa;refine⟨l++[a],by simp[f],fun i b d=> ?_⟩;rw[mK]at d;split at d
   ·exact j i b d
   ·rename_i m
    have:i=n:=by
     have:=(zH.1 d).1;simp at this;omega
    subst this;simp[f]at d;exact d▸g
theorem ka6 {α:Type} {t e:TypeId} {f:α->List T} {good:α->Prop} (R:P.underlying t=some (.slice e)) (g:0<P.bytesOf e) (hc:0<P.cellsOf e) (n:Nat) (h: ∀m,m<n->Rd enc P W nm m e f good):
 Rd enc P W nm n t (fun l:List α=>[.sl (l.map f)]) (fun l=>l.length<=reachBytes/\ ∀a∈l,good a):=by
 intro cs x FS U;rcases DataW.trod_slice R FS with⟨rfl,_⟩ | ⟨a,len,cap,elems,rest,m,rfl,rfl,rfl,_,Mv,_,M2,KL,_,_⟩
 ·exact⟨[],⟨af,af⟩,.one (.sl0 none 0)⟩
 ·simp only[DataW.weights,R,ey,nq,zF,aQ,cP]at U
  have Fg: ∀i,i<len-> ∃b:α,good b/\ ∃ci,W.cells? 0 (a.add (i*P.cellsOf e)) (P.cellsOf e)=some ci/\j9 W nm ci (f b):=by
   intro i hi;have M:=KL i hi;obtain⟨z,V⟩: ∃z,elems[i]? =some z:=⟨_,zI aa⟩
   rw[V,zB]at M;obtain⟨ci,C,PM⟩:=M;have MM:=I0 U.2.1 z.1 (cy.2 ⟨z,zL V,rfl⟩);obtain⟨b,F,s⟩:=h m aa ci z PM MM;exact⟨b,F,ci,C,s⟩
  obtain⟨l,Q,G⟩:=KN len Fg;refine⟨l,⟨?_,fun b g=> ?_⟩,.one ?_⟩
  ·have:elems.length*1<=(elems.length+rest.length)*P.bytesOf e:=tj aa g;omega
  ·obtain⟨i,hi⟩:=eH g;exact(G i b hi).1
  ·by_cases h0:len=0
   ·subst h0;have:l=[]:=lx.1 Q;subst this;exact .sl0 _ _
   ·have E: ∀(i:Nat) (b:α),l[i]? =some b->(f b).length=P.cellsOf e:=by
     intro i b hi;obtain⟨_,ci,C,s⟩:=G i b hi;rw[<- s.1,(cells?_get C).1]
    have D: ∀(i j:Nat) (b:α),l[i]? =some b->j<P.cellsOf e-> ∃v,W.cell? ((a.add (i*P.cellsOf e)).add j)=some v/\ ∀x,(f b)[j]? =some x->RepT W (fun r=>r<W.heap.size) nm v x:=by
     intro i j b hi q;obtain⟨_,ci,C,s⟩:=G i b hi;have F:=cells?_get C;obtain⟨v,o⟩: ∃v,ci[j]? =some v:=⟨_,zI aa⟩
     refine⟨v,by rw[F.2 j q,o],fun x B=> ?_⟩;obtain⟨u,S,Nj⟩:=s.2 j x B;rw[o]at S;cases S;exact Nj
    obtain⟨b0,Y⟩: ∃b,l[0]? =some b:=⟨_,zI aa⟩
    obtain⟨v0,I,_⟩:=D 0 0 b0 Y hc;have Z:(a.add (0*P.cellsOf e)).add 0=a:=by simp[Addr.add]
    rw[Z]at I;obtain⟨L,K⟩:=cell?_spot I;obtain⟨r,d,spot⟩:=a;simp only at L K;subst L
    have J: ∀i j,((⟨r,d,none⟩:Addr).add (i*P.cellsOf e)).add j=⟨r,d+i*P.cellsOf e+j,none⟩:=by
     intro i j;unfold Addr.add;split<;>split<;>simp_all
    have X:(l.map f).length=len:=by simp[Q]
    rw[show Value.slice (some ⟨r,d,none⟩) len cap=Value.slice (some ⟨r,d,none⟩) (l.map f).length cap by rw[X]];refine .sl r d cap (P.cellsOf e) (l.map f) (fun i j=>(W.cell? ⟨r,d+i*P.cellsOf e+j,none⟩).getD .nilFunc) aa aa K ?_ ?_ ?_
    ·intro i y p;rw[zJ,zE]at p;obtain⟨b,g,rfl⟩:=p;exact E i b g
    ·intro i y j x p B;rw[zJ,zE]at p;obtain⟨b,g,rfl⟩:=p;have q:=(zH.1 B).1;rw[E i b g]at q;obtain⟨v,o,_⟩:=D i j b g q;rw[J]at o;rw[o];rfl
    ·intro i y j x p B;rw[zJ,zE]at p;obtain⟨b,g,rfl⟩:=p;have q:=(zH.1 B).1;rw[E i b g]at q;obtain⟨v,o,s⟩:=D i j b g q;rw[J]at o;rw[o];exact s x B
theorem mC {n a:Nat}:RdF enc P W nm n a [] a (fun _:Unit=>[]) (fun _=>True):=by
 intro cs xs b _ _ _;refine⟨(),trivial,?_⟩;rw[oU aa];exact⟨rfl,fun j x h=>by simp at h⟩
theorem bR {α β:Type} {n j d l:Nat} {t:TypeId} {p:List (TypeId×Nat)} {f:α->List T} {good:α->Prop} {g:β->List T} {good':β->Prop}
 (v:P.cellsOf t=l) (h:Rd enc P W nm n t f good) (h':RdF enc P W nm n j p (d+l) g good'):
 RdF enc P W nm n j ((t,d)::p) d (fun q:α×β=>f q.1++g q.2) (fun q=>good q.1/\good' q.2):=by
 intro cs xs F o u m
 cases xs with
 | nil=>simp at o
 | cons x r=>
   have s:=u 0 (t,d) rfl;simp only[dv,v]at s;rw[aT,aT,DataW.weightsEach,nq,zF]at m;obtain⟨a,D,z⟩:=h _ x s m.1;obtain⟨b,E,B⟩:=h' cs r F (al o) (fun i C hi=>by simpa using u (i+1) C (al hi)) m.2;refine⟨(a,b),⟨D,E⟩,?_⟩;have:cs.drop d=(cs.drop d).take l++cs.drop (d+l):=by rw[<- A7,List.take_append_drop]
   rw[this];exact z.append B
theorem Zr {α:Type} {t:TypeId} {g:List (TypeId×Nat)} {b:Nat} {f:α->List T} {good:α->Prop}
 (d:(match P.underlying t with | some (.struct a)=>decide (a.toList.map (fun x=>(x.type,x.offset))=g) | _=>false)=true) (u:P.cellsOf t=b) (n:Nat)
 (h: ∀m,m<n->RdF enc P W nm m b g 0 f good):Rd enc P W nm n t f good:=by
 intro cs x o l;split at d
 ·rename_i a j;rw[aQ]at d;obtain⟨xs,m,rfl,rfl,z,p,s⟩:=DataW.trod_struct j o;subst d
  have:=h m aa cs xs aa (by simp[p]) (fun i v hi=>by
   rw[zJ,zE]at hi;obtain⟨r,q,rfl⟩:=hi
   exact s i r (al q)) (by
   simp only[DataW.weights,j]at l;rw[mj]
   exact l)
  simpa using this
 ·simp at d
theorem Rd.conv {α β:Type} {t:TypeId} {n:Nat} {f:α->List T} {good:α->Prop} {g:β->List T} {good':β->Prop} (h:Rd enc P W nm n t f good) (l: ∀a,good a-> ∃b,good' b/\f a=g b):Rd enc P W nm n t g good':=by
 intro cs x d p;obtain⟨a,i,o⟩:=h cs x d p;obtain⟨b,j,m⟩:=l a i;exact⟨b,j,m▸o⟩
end
end Rg
end
section
namespace Rg
open Go
structure Tys where
 int:Nat
 bool:Nat
 str:Nat
 u8:Nat
 ints:Nat
 bytes:Nat
 expr:Nat
 exprs:Nat
 cell:Nat
 cells:Nat
 assign:Nat
 assigns:Nat
 step:Nat
 steps:Nat
 loop:Nat
 loops:Nat
 thread:Nat
 threads:Nat
 contract:Nat
 contracts:Nat
 lock:Nat
 locks:Nat
 prog:Nat
 entry:Nat
 entries:Nat
 bufs:Nat
 config:Nat
 choice:Nat
def dn (P:Program) (t:TypeId) (k:IntKind):Bool:=(match P.underlying t with | some (.int k')=>decide (k'=k) | _=>false)&&decide (P.cellsOf t=1)
def jY (P:Program) (t:TypeId):Bool:=(match P.underlying t with | some .bool=>true | _=>false)&&decide (P.cellsOf t=1)
def jL (P:Program) (t:TypeId):Bool:=(match P.underlying t with | some .string=>true | _=>false)&&decide (P.cellsOf t=1)
def cv (P:Program) (t e:TypeId):Bool:=(match P.underlying t with | some (.slice e')=>decide (e'=e) | _=>false)&&decide (0<P.bytesOf e)&&decide (0<P.cellsOf e)&&decide (P.cellsOf t=1)
def dQ (P:Program) (t:TypeId) (b:Nat) (d:List (TypeId×Nat)):Bool:=
 (match P.underlying t with | some (.struct a)=>decide (a.toList.map (fun x=>(x.type,x.offset))=d) | _=>false)&&decide (P.cellsOf t=b)
structure Tys.Ok0 (P:Program) (y:Tys):Prop where
 int:dn P y.int .i64=true
 bool:jY P y.bool=true
 str:jL P y.str=true
 u8:dn P y.u8 .u8=true
 ints:cv P y.ints y.int=true
 expr:dQ P y.expr 4 [(y.int,0),(y.int,1),(y.int,2),(y.exprs,3)]=true
 exprs:cv P y.exprs y.expr=true
 cell:dQ P y.cell 6 [(y.str,0),(y.int,1),(y.int,2),(y.int,3),(y.bool,4),(y.int,5)]=true
 cells:cv P y.cells y.cell=true
 assign:dQ P y.assign 5 [(y.int,0),(y.expr,1)]=true
 assigns:cv P y.assigns y.assign=true
 step:dQ P y.step 11 [(y.int,0),(y.int,1),(y.int,2),(y.expr,3),(y.assigns,7),(y.bool,8),(y.int,9),(y.int,10)]=true
 steps:cv P y.steps y.step=true
 loop:dQ P y.loop 6 [(y.int,0),(y.ints,1),(y.expr,2)]=true
 loops:cv P y.loops y.loop=true
 thread:dQ P y.thread 7 [(y.str,0),(y.int,1),(y.exprs,2),(y.ints,3),(y.steps,4),(y.loops,5),(y.bool,6)]=true
 threads:cv P y.threads y.thread=true
 contract:dQ P y.contract 11 [(y.str,0),(y.str,1),(y.expr,2),(y.expr,6),(y.ints,10)]=true
 contracts:cv P y.contracts y.contract=true
 lock:dQ P y.lock 6 [(y.int,0),(y.expr,1),(y.int,5)]=true
 locks:cv P y.locks y.lock=true
 prog:dQ P y.prog 4 [(y.cells,0),(y.contracts,1),(y.locks,2),(y.threads,3)]=true
structure Tys.OkP (P:Program) (y:Tys):Prop extends y.Ok0 P where
 bytes:cv P y.bytes y.u8=true
structure Tys.Ok (P:Program) (y:Tys):Prop extends y.OkP P where
 entry:dQ P y.entry 2 [(y.ints,0),(y.ints,1)]=true
 entries:cv P y.entries y.entry=true
 bufs:cv P y.bufs y.entries=true
 config:dQ P y.config 3 [(y.ints,0),(y.ints,1),(y.bufs,2)]=true
 choice:dQ P y.choice 3 [(y.int,0),(y.int,1),(y.int,2)]=true
section
variable {P:Program} {t e:TypeId} {k:IntKind}
theorem dn.u (h:dn P t k=true):P.underlying t=some (.int k):=by
 simp only[dn,zF]at h;have h:=h.1;split at h
 ·rename_i a;rw[a,nT h]
 ·simp at h
theorem dn.c (h:dn P t k=true):P.cellsOf t=1:=by
 simp only[dn,zF,aQ]at h;exact h.2
theorem jY.u (h:jY P t=true):P.underlying t=some .bool:=by
 simp only[jY,zF]at h;have h:=h.1;split at h
 ·rename_i a;exact a
 ·simp at h
theorem jY.c (h:jY P t=true):P.cellsOf t=1:=by
 simp only[jY,zF,aQ]at h;exact h.2
theorem jL.u (h:jL P t=true):P.underlying t=some .string:=by
 simp only[jL,zF]at h;have h:=h.1;split at h
 ·rename_i a;exact a
 ·simp at h
theorem jL.c (h:jL P t=true):P.cellsOf t=1:=by
 simp only[jL,zF,aQ]at h;exact h.2
theorem cv.u (h:cv P t e=true):P.underlying t=some (.slice e):=by
 simp only[cv,zF]at h;have h:=h.1.1.1;split at h
 ·rename_i a;rw[a,nT h]
 ·simp at h
theorem cv.p (h:cv P t e=true):0<P.bytesOf e/\0<P.cellsOf e/\P.cellsOf t=1:=by
 simp only[cv,zF,aQ]at h;exact⟨h.1.1.2,h.1.2,h.2⟩
theorem cv.c (h:cv P t e=true):P.cellsOf t=1:=(cv.p h).2.2
theorem dQ.c {a:Nat} {b:List (TypeId×Nat)} (h:dQ P t a b=true):P.cellsOf t=a:=by
 simp only[dQ,zF,aQ]at h;exact h.2
end
section
variable {H:Type} {enc:TypeId×Value->H} {P:Program} {W:World} {nm:Nat->Nat} {y:Tys}
theorem lV {α:Type} {t e:TypeId} {f:α->List T} {good:α->Prop} (h:cv P t e=true) (n:Nat) (b: ∀m,m<n->Rd enc P W nm m e f good):
 Rd enc P W nm n t (fun l:List α=>[.sl (l.map f)]) (fun l=>l.length<=reachBytes/\ ∀a∈l,good a):=ka6 (cv.u h) (cv.p h).1 (cv.p h).2.1 n b
theorem ma {α:Type} {t:TypeId} {b:List (TypeId×Nat)} {a:Nat} {f:α->List T} {good:α->Prop} (h:dQ P t a b=true) (n:Nat)
 (g: ∀m,m<n->RdF enc P W nm m a b 0 f good):Rd enc P W nm n t f good:=by
 have d:=dQ.c h;simp only[dQ,zF]at h;exact Zr h.1 d n g
theorem fO (a:y.Ok0 P) (n:Nat):Rd enc P W nm n y.int (fun i:Int=>[ti i]) (fun _=>True):=
 (Tb (dn.u a.int) n).conv fun i _=>⟨i,trivial,rfl⟩
theorem wS (a:y.Ok0 P) (n:Nat):Rd enc P W nm n y.bool (fun b:Bool=>[tb b]) (fun _=>True):=kbt (jY.u a.bool) n
theorem uF (a:y.Ok0 P) (n:Nat):Rd enc P W nm n y.str (fun s:ByteArray=>[.str s]) (fun s=>s.size<=reachBytes):=kcS (jL.u a.str) n
theorem yU (a:y.Ok0 P) (n:Nat):Rd enc P W nm n y.ints (fun l:List Int=>[ints l]) (fun l=>l.length<=reachBytes):=
 (lV a.ints n fun m _=>fO a m).conv fun l h=>⟨l,h.1,rfl⟩
theorem kdc (a:y.Ok0 P) (n:Nat):Rd enc P W nm n y.u8 (fun i:Int=>[.int .u8 i]) (fun i=>0<=i/\i<256):=
 (Tb (dn.u a.u8) n).conv fun i h=>⟨i,by simp[Lit.wf,IntKind.min,IntKind.max,IntKind.signed,IntKind.bits]at h;omega,rfl⟩
theorem ol (a:y.Ok0 P) (n:Nat):Rd enc P W nm n y.expr Expr.enc (fun _=>True):=by
 induction n using Nat.strongRecOn with
 | _ n d=>
   refine(ma a.expr n fun m g=>bR (dn.c a.int) (fO a m) (bR (dn.c a.int) (fO a m) (bR (dn.c a.int) (fO a m) (bR (cv.c a.exprs) (lV a.exprs m fun j f=>d j aa) mC)))).conv ?_;rintro⟨op,w,k,b,u⟩ _;exact⟨.mk op w k b,trivial,(Expr.enc_eq (.mk op w k b)).symm⟩
theorem ka7 (a:y.Ok0 P) (n:Nat):Rd enc P W nm n y.exprs (fun l:List Expr=>[.sl (l.map Expr.enc)]) (fun l=>l.length<=reachBytes):=
 (lV a.exprs n fun m _=>ol a m).conv fun l h=>⟨l,h.1,rfl⟩
theorem kci (g:y.Ok0 P) (n:Nat):Rd enc P W nm n y.cell Cell.enc (fun c=>c.name.size<=reachBytes):=by
 refine(ma g.cell n fun m i=>bR (jL.c g.str) (uF g m) (bR (dn.c g.int) (fO g m) (bR (dn.c g.int) (fO g m) (bR (dn.c g.int) (fO g m) (bR (jY.c g.bool) (wS g m) (bR (dn.c g.int) (fO g m) mC)))))).conv ?_;rintro⟨a,b,c,d,e,f,u⟩ h;exact⟨⟨a,b,c,d,e,f⟩,h.1,rfl⟩
theorem YI (d:y.Ok0 P) (n:Nat):Rd enc P W nm n y.assign Assign.enc (fun _=>True):=by
 refine(ma d.assign n fun m f=>bR (dn.c d.int) (fO d m) (bR (dQ.c d.expr) (ol d m) mC)).conv ?_;rintro⟨a,b,u⟩ h;exact⟨⟨a,b⟩,trivial,by simp[Assign.enc]⟩
theorem X6 (a:y.Ok0 P) (n:Nat):Rd enc P W nm n y.assigns (fun l:List Assign=>[.sl (l.map Assign.enc)]) (fun l=>l.length<=reachBytes):=
 (lV a.assigns n fun m _=>YI a m).conv fun l h=>⟨l,h.1,rfl⟩
theorem kce (j:y.Ok0 P) (n:Nat):Rd enc P W nm n y.step Step.enc (fun s=>s.set.length<=reachBytes):=by
 refine(ma j.step n fun m l=>bR (dn.c j.int) (fO j m) (bR (dn.c j.int) (fO j m) (bR (dn.c j.int) (fO j m) (bR (dQ.c j.expr) (ol j m) (bR (cv.c j.assigns) (X6 j m) (bR (jY.c j.bool) (wS j m)
  (bR (dn.c j.int) (fO j m) (bR (dn.c j.int) (fO j m) mC)))))))).conv ?_
 rintro⟨a,b,c,d,e,f,g,i,u⟩ h;exact⟨⟨a,b,c,d,e,f,g,i⟩,h.2.2.2.2.1,by simp[Step.enc]⟩
theorem kcg (d:y.Ok0 P) (n:Nat):Rd enc P W nm n y.loop Loop.enc (fun x=>x.body.length<=reachBytes):=by
 refine(ma d.loop n fun m f=>bR (dn.c d.int) (fO d m) (bR (cv.c d.ints) (yU d m) (bR (dQ.c d.expr) (ol d m) mC))).conv ?_;rintro⟨a,b,c,u⟩ h;exact⟨⟨a,b,c⟩,h.2.1,by simp[Loop.enc]⟩
structure Thread.inMem (x:Thread):Prop where
 name:x.name.size<=reachBytes
 steps:x.steps.length<=reachBytes
 asserts:x.asserts.length<=reachBytes
 modules:x.modules.length<=reachBytes
 loops:x.loops.length<=reachBytes
 sets: ∀s∈x.steps,s.set.length<=reachBytes
 bodies: ∀l∈x.loops,l.body.length<=reachBytes
theorem Zq (i:y.Ok0 P) (n:Nat):Rd enc P W nm n y.thread Thread.enc Thread.inMem:=by
 refine(ma i.thread n fun m l=>bR (jL.c i.str) (uF i m) (bR (dn.c i.int) (fO i m) (bR (cv.c i.exprs) (ka7 i m) (bR (cv.c i.ints) (yU i m)
  (bR (cv.c i.steps) (lV i.steps m fun j _=>kce i j) (bR (cv.c i.loops) (lV i.loops m fun j _=>kcg i j) (bR (jY.c i.bool) (wS i m) mC))))))).conv ?_
 rintro⟨a,b,c,d,e,f,g,u⟩ h;exact⟨⟨a,b,c,d,e,f,g⟩,⟨h.1,h.2.2.2.2.1.1,h.2.2.1,h.2.2.2.1,h.2.2.2.2.2.1.1,h.2.2.2.2.1.2,h.2.2.2.2.2.1.2⟩,rfl⟩
theorem WQ (f:y.Ok0 P) (n:Nat):Rd enc P W nm n y.contract Contract.enc (fun x=>x.name.size<=reachBytes/\x.owner.size<=reachBytes/\x.frame.length<=reachBytes):=by
 refine(ma f.contract n fun m g=>bR (jL.c f.str) (uF f m) (bR (jL.c f.str) (uF f m) (bR (dQ.c f.expr) (ol f m) (bR (dQ.c f.expr) (ol f m) (bR (cv.c f.ints) (yU f m) mC))))).conv ?_;rintro⟨a,b,c,d,e,u⟩ h;exact⟨⟨a,b,c,d,e⟩,⟨h.1,h.2.1,h.2.2.2.2.1⟩,by simp[Contract.enc]⟩
theorem kch (d:y.Ok0 P) (n:Nat):Rd enc P W nm n y.lock Lock.enc (fun _=>True):=by
 refine(ma d.lock n fun m f=>bR (dn.c d.int) (fO d m) (bR (dQ.c d.expr) (ol d m) (bR (dn.c d.int) (fO d m) mC))).conv ?_;rintro⟨a,b,c,u⟩ h;exact⟨⟨a,b,c⟩,trivial,by simp[Lock.enc]⟩
structure Prog.inMem (p:Prog):Prop where
 cells: ∀c∈p.cells,c.name.size<=reachBytes
 modules: ∀m∈p.modules,m.name.size<=reachBytes/\m.owner.size<=reachBytes/\m.frame.length<=reachBytes
 threads: ∀x∈p.threads,x.inMem
 nCells:p.cells.length<=reachBytes
 nModules:p.modules.length<=reachBytes
 nLocks:p.locks.length<=reachBytes
 nThreads:p.threads.length<=reachBytes
theorem kcf (f:y.Ok0 P) (n:Nat):Rd enc P W nm n y.prog Prog.enc Prog.inMem:=by
 refine(ma f.prog n fun m g=>bR (cv.c f.cells) (lV f.cells m fun j _=>kci f j) (bR (cv.c f.contracts) (lV f.contracts m fun j _=>WQ f j)
  (bR (cv.c f.locks) (lV f.locks m fun j _=>kch f j) (bR (cv.c f.threads) (lV f.threads m fun j _=>Zq f j) mC)))).conv ?_
 rintro⟨a,b,c,d,u⟩ h;exact⟨⟨a,b,c,d⟩,⟨h.1.2,h.2.1.2,h.2.2.2.1.2,h.1.1,h.2.1.1,h.2.2.1.1,h.2.2.2.1.1⟩,rfl⟩
end
end Rg
end
section
namespace Rg
open Go
abbrev zP (p:Prog):V:=.agg [.t (.sl (p.cells.map Cell.enc)),.t (.sl (p.modules.map Contract.enc)),.t (.sl (p.locks.map Lock.enc)),.t (.sl (p.threads.map Thread.enc))]
abbrev zT (x:Thread):V:=.agg [.t (.str x.name),.t (ti x.points),.t (.sl (x.asserts.map Expr.enc)),.t (ints x.modules),.t (.sl (x.steps.map Step.enc)),.t (.sl (x.loops.map Loop.enc)),.t (tb x.asleep)]
abbrev zS (s:Step):V:=.agg [.t (ti s.kind),.t (ti s.fr),.t (ti s.to),.t (ti s.guard.op),.t (ti s.guard.w),.t (ti s.guard.n),.t (.sl (s.guard.kids.map Expr.enc)),.t (.sl (s.set.map Assign.enc)),.t (tb s.release),.t (ti s.target),.t (ti s.module)]
end Rg
end
