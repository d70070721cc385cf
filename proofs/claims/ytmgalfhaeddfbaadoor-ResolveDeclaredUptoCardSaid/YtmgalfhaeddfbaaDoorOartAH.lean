/- Part of the proof of laws of relyguardlaw04. No condition. -/
import Derived.Scope
import Derived.Test.YtmgalfhaeddfbaaDoorOartAG
import Derived.Laws.BitsLemmas
import Derived.Attr
set_option linter.unusedSimpArgs false
set_option linter.unusedVariables false
section
namespace Rg
open Go
section
variable {F:Fence} {n:Nat} {P:Program} {Q:Exit->Act->World->Prop} {b:Frame} {a:Act} {k:List Item} {cs:List Frame} {w:World} {c:Code}
theorem zdf:step P (lone (b.atR a (.code (.scope c)::k)) cs w)= .next (lone (b.atR a (.code c:: .inScope c::k)) cs w):=
 step_lone_go (by simp[stepG,stepG.exec,Frame.atR])
theorem zle:step P (lone (b.atR a (.inScope c::k)) cs w)= .next (lone (b.atR a k) cs w):=
 step_lone_go (by simp[stepG,stepG.exec,Frame.atR])
theorem zp1 (h:c.wpIn F n P (Exit.noGoto Q) a w):(Code.scope c).wpIn F n P Q a w:=by
 intro b k cs B1 hb hr;have h0:(lone (b.atR a (.code (.scope c)::k)) cs w).fenced P F:=fenced_calm hb hr rfl;obtain⟨e,a₁,w₁,hq,Br⟩:=h b (.inScope c::k) cs B1 hb hr
 cases e with
 | normal=>exact⟨.normal,a₁,w₁,hq,.head h0 zdf (StepsIn.trans Br (.one (fenced_calm hb hr rfl) zle))⟩
 | exit id=>
   have hx:exitTo id (.inScope c::k)=exitTo id k:=by simp[exitTo]
   exact⟨.exit id,a₁,w₁,hq,fun k' hk=> .head h0 zdf (Br.1 k' (by rw[hx];exact hk)),
    fun Dz hk=>let⟨k₁,h1,h2⟩:=Br.2 Dz (by rw[hx];exact hk);⟨k₁,h1,.head h0 zdf h2⟩⟩
 | goto l=>exact hq.elim
 | ret=>exact⟨_,a₁,w₁,hq,.of_steps (.one h0 zdf) Br⟩
 | panic ch=>exact⟨_,a₁,w₁,hq,.of_steps (.one h0 zdf) Br⟩
 | outgrown=>exact⟨_,a₁,w₁,hq,.of_steps (.one h0 zdf) Br⟩
end
def C.noRange:C->Bool
 | .seq a b=>a.noRange&&b.noRange
 | .cond _ a b=>a.noRange&&b.noRange
 | .block _ b=>b.noRange
 | .loop b=>b.noRange
 | .rangeF _ _ _=>false
 | .round a b=>a.noRange&&b.noRange
 | _=>true
def zcd (ns:Nat) (sk:Option C) (x:Option Opd) (b:Option C) (ps:Array Nat):Option C:=
 match sk,x,b with
 | some a,some x,some b=>if a.noRange&&b.noRange&&ps.toList.all (fun t=>decide (t<ns))then some (.rangeF x ps.toList (.round a b))else none
 | _,_,_=>none
section
variable {ns:Nat} {sk:Option C} {x:Option Opd} {b:Option C} {ps:Array Nat}
theorem zaY {y:C} (h:zcd ns sk x b ps=some y): ∃x' b' a',x=some x'/\b=some b'/\y= .rangeF x' ps.toList (.round a' b')/\sk=some a'/\a'.noRange=true/\b'.noRange=true/\ ∀t∈ps.toList,t<ns:=by
 unfold zcd at h;split at h
 ·rename_i a' x' b';split at h
  ·rename_i hc;simp only[zF,List.all_eq_true,decide_eq_true_eq]at hc;simp only[zA]at h;exact⟨x',b',a',rfl,rfl,h.symm,rfl,hc.1.1,hc.1.2,hc.2⟩
  ·simp at h
 ·simp at h
@[simp]theorem ztB:(zcd ns sk x b ps=some .skip)=False:=eq_false fun h=>by obtain⟨_,_,_,_,_,h,_⟩:=zaY h;cases h
@[simp]theorem zvg:(zcd ns sk x b ps=some .ret)=False:=eq_false fun h=>by obtain⟨_,_,_,_,_,h,_⟩:=zaY h;cases h
@[simp]theorem ztD {id:Nat}:(zcd ns sk x b ps=some (.exit id))=False:=eq_false fun h=>by obtain⟨_,_,_,_,_,h,_⟩:=zaY h;cases h
@[simp]theorem zvf {u v:C}:(zcd ns sk x b ps=some (.seq u v))=False:=eq_false fun h=>by obtain⟨_,_,_,_,_,h,_⟩:=zaY h;cases h
@[simp]theorem ztE {c:Opd} {u v:C}:(zcd ns sk x b ps=some (.cond c u v))=False:=eq_false fun h=>by obtain⟨_,_,_,_,_,h,_⟩:=zaY h;cases h
@[simp]theorem zs8 {id:Nat} {u:C}:(zcd ns sk x b ps=some (.block id u))=False:=eq_false fun h=>by obtain⟨_,_,_,_,_,h,_⟩:=zaY h;cases h
@[simp]theorem ztC {u:C}:(zcd ns sk x b ps=some (.loop u))=False:=eq_false fun h=>by obtain⟨_,_,_,_,_,h,_⟩:=zaY h;cases h
@[simp]theorem zq6 {d:Bool} {l:List ROp}:(zcd ns sk x b ps=some (.region d l))=False:=eq_false fun h=>by obtain⟨_,_,_,_,_,h,_⟩:=zaY h;cases h
@[simp]theorem zvh {e:Ext}:(zcd ns sk x b ps=some (.ext e))=False:=eq_false fun h=>by obtain⟨_,_,_,_,_,h,_⟩:=zaY h;cases h
end
def zcJ (ops:Array Oper) (l:List ROp):Option C:=
 if zs1 ops l then some (.region true l)
 else if zgF (zr1 ops l) ops l&&zho (zr1 ops l) l then some (.regionD (zr1 ops l) l)else none
section
variable {ops:Array Oper} {l:List ROp}
theorem zbc {y:C} (h:zcJ ops l=some y):(y= .region true l/\zs1 ops l=true)\/ ∃ck,y= .regionD ck l/\zgF ck ops l=true/\zho ck l=true:=by
 unfold zcJ at h;split at h
 ·rename_i hd;simp only[zA]at h;exact .inl ⟨h.symm,hd⟩
 ·split at h
  ·rename_i hd;simp only[zF]at hd;simp only[zA]at h;exact .inr ⟨_,h.symm,hd⟩
  ·simp at h
@[simp]theorem zvi:(zcJ ops l=some .skip)=False:=eq_false fun h=>by rcases zbc h with⟨h,_⟩ | ⟨_,h,_⟩<;>cases h
@[simp]theorem zv2:(zcJ ops l=some .ret)=False:=eq_false fun h=>by rcases zbc h with⟨h,_⟩ | ⟨_,h,_⟩<;>cases h
@[simp]theorem zvk {id:Nat}:(zcJ ops l=some (.exit id))=False:=eq_false fun h=>by rcases zbc h with⟨h,_⟩ | ⟨_,h,_⟩<;>cases h
@[simp]theorem zv1 {u v:C}:(zcJ ops l=some (.seq u v))=False:=eq_false fun h=>by rcases zbc h with⟨h,_⟩ | ⟨_,h,_⟩<;>cases h
@[simp]theorem zvl {c:Opd} {u v:C}:(zcJ ops l=some (.cond c u v))=False:=eq_false fun h=>by rcases zbc h with⟨h,_⟩ | ⟨_,h,_⟩<;>cases h
@[simp]theorem ztG {id:Nat} {u:C}:(zcJ ops l=some (.block id u))=False:=eq_false fun h=>by rcases zbc h with⟨h,_⟩ | ⟨_,h,_⟩<;>cases h
@[simp]theorem zvj {u:C}:(zcJ ops l=some (.loop u))=False:=eq_false fun h=>by rcases zbc h with⟨h,_⟩ | ⟨_,h,_⟩<;>cases h
@[simp]theorem zv3 {e:Ext}:(zcJ ops l=some (.ext e))=False:=eq_false fun h=>by rcases zbc h with⟨h,_⟩ | ⟨_,h,_⟩<;>cases h
@[simp]theorem ztF {x:Opd} {ps:List Nat} {b:C}:(zcJ ops l=some (.rangeF x ps b))=False:=eq_false fun h=>by rcases zbc h with⟨h,_⟩ | ⟨_,h,_⟩<;>cases h
end
section
variable (P:Program) (I:Inv)
def zbI (rw:Raws) (L:List Nat) (ns:Nat):Code->Option C
 | .skip=>some .skip
 | .region _ ops draw=>do
   let l<- zgG P I rw L ns ops [] ops.toList
   if draw then zcJ ops l else some (.region false l)
 | .seq a b=>do
   let a<- zbI rw L ns a
   let b<- zbI rw L ns b
   some (.seq a b)
 | .cond c a b=>do
   let c<- opd I c
   let a<- zbI rw L ns a
   let b<- zbI rw L ns b
   some (.cond c a b)
 | .block id b=>do
   let b<- zbI rw L ns b
   some (.block id b)
 | .loop b=>do
   let b<- zbI rw L ns b
   some (.loop b)
 | .exit id=>some (.exit id)
 | .ret=>some .ret
 | .rangeFunc g ps a b=>zcd ns (zbI rw L ns a) (opd I g) (zbI rw L ns b) ps
 | .label _=>some .skip
 | .scope b=>do
   let b<- zbI rw L ns b
   some (.seq .skip b)
 | _=>none
def zot (L:List Nat):ResultVar->Option Res
 | .tmp t=>some (.s t)
 | .cell a ty=>do
   let(ag,n)<- typ P ty
   if L.contains a then some (.l a ag n)else some (.h a ag n)
def zou (rw:Raws) (L:List Nat) (raw:Bool) (rf:Func):Option F:=do
 let body<- rf.body
 let b<- zbI P I rw L rf.ntmps body
 let rs<- rf.results.toList.mapM (zot P L)
 if (rf.name == "runtime.NumGoroutine") then none else some { nslots := rf.ntmps, raw := raw, results := rs, body := b }
end
section
variable {P:Program} {I:Inv} {rw:Raws} {L:List Nat} {k:Nat} {rc:Code}
theorem zlQ {e:Ext} (h:zbI P I rw L k rc=some (.ext e)):False:=by
 cases rc<;>simp only[zbI,zC,zB]at h
 all_goals(first | (cases h;done) | skip)
 ·obtain⟨l,_,h⟩:=h;split at h
  ·simp at h
  ·cases h
 all_goals((try(simp at h;done));(try(obtain⟨_,_,h⟩:=h));(try(obtain⟨_,_,h⟩:=h));(try(obtain⟨_,_,h⟩:=h));(try(simp at h;done)))
theorem zuN (h:zbI P I rw L k rc=some .skip):rc= .skip\/ ∃l,rc= .label l:=by
 cases rc<;>simp[zbI,zB]at h
 ·exact .inl rfl
 ·obtain⟨l,_,h⟩:=h;split at h
  ·simp at h
  ·simp at h
 ·exact .inr ⟨_,rfl⟩
theorem zwS (h:zbI P I rw L k rc=some .ret):rc= .ret:=by
 cases rc<;>simp[zbI,zB]at h
 ·obtain⟨l,_,h⟩:=h;split at h
  ·simp at h
  ·simp at h
 ·rfl
theorem zuP {id:Nat} (h:zbI P I rw L k rc=some (.exit id)):rc= .exit id:=by
 cases rc<;>simp[zbI,zB]at h
 ·obtain⟨l,_,h⟩:=h;split at h
  ·simp at h
  ·simp at h
 ·subst h;rfl
theorem zss {a b:C} (h:zbI P I rw L k rc=some (.seq a b)):
 (∃x y,rc= .seq x y/\zbI P I rw L k x=some a/\zbI P I rw L k y=some b)\/ ∃x,rc= .scope x/\a= .skip/\zbI P I rw L k x=some b:=by
 cases rc<;>simp[zbI,zB]at h
 ·obtain⟨l,_,h⟩:=h;split at h
  ·simp at h
  ·simp at h
 ·rename_i x y;exact .inl ⟨x,y,rfl,h.1,h.2⟩
 ·rename_i x;exact .inr ⟨x,rfl,h.2.symm,h.1⟩
theorem zuQ {c:Opd} {a b:C} (h:zbI P I rw L k rc=some (.cond c a b)): ∃c0 x y,rc= .cond c0 x y/\opd I c0=some c/\zbI P I rw L k x=some a/\zbI P I rw L k y=some b:=by
 cases rc<;>simp[zbI,zB]at h
 ·obtain⟨l,_,h⟩:=h;split at h
  ·simp at h
  ·simp at h
 ·rename_i c0 x y;obtain⟨c',h1,a',h2,b',h3,rfl,rfl,rfl⟩:=h;exact⟨c0,x,y,rfl,h1,h2,h3⟩
theorem zsu {id:Nat} {b:C} (h:zbI P I rw L k rc=some (.block id b)): ∃x,rc= .block id x/\zbI P I rw L k x=some b:=by
 cases rc<;>simp[zbI,zB]at h
 ·obtain⟨l,_,h⟩:=h;split at h
  ·simp at h
  ·simp at h
 ·rename_i id' x;obtain⟨h1,rfl⟩:=h;exact⟨x,rfl,h1⟩
theorem zuO {b:C} (h:zbI P I rw L k rc=some (.loop b)): ∃x,rc= .loop x/\zbI P I rw L k x=some b:=by
 cases rc<;>simp[zbI,zB]at h
 ·obtain⟨l,_,h⟩:=h;split at h
  ·simp at h
  ·simp at h
 ·rename_i x;exact⟨x,rfl,h⟩
theorem zqx {d:Bool} {l:List ROp} (h:zbI P I rw L k rc=some (.region d l)): ∃id ops,rc= .region id ops d/\zgG P I rw L k ops [] ops.toList=some l/\(d=true->zs1 ops l=true):=by
 cases rc<;>simp[zbI,zB]at h
 rename_i id ops draw;obtain⟨l',hl,h⟩:=h;split at h
 ·rename_i hd;rcases zbc h with⟨h,Bm⟩ | ⟨_,h,_⟩
  ·simp only[C.region.injEq]at h;obtain⟨rfl,rfl⟩:=h;exact⟨id,ops,by rw[hd],hl,fun _=>Bm⟩
  ·cases h
 ·rename_i hd;simp only[zA,C.region.injEq]at h;obtain⟨rfl,rfl⟩:=h;exact⟨id,ops,by cases draw<;>simp_all,hl,by simp⟩
theorem zn8 {ck:List (Nat×Nat)} {l:List ROp} (h:zbI P I rw L k rc=some (.regionD ck l)):
 ∃id ops,rc= .region id ops true/\zgG P I rw L k ops [] ops.toList=some l/\zgF ck ops l=true/\zho ck l=true:=by
 cases rc
 case region id ops draw=>
  simp only[zbI,zC,zB]at h;obtain⟨l',hl,h⟩:=h;split at h
  ·rename_i hd;rcases zbc h with⟨h,_⟩ | ⟨ck',h,Bm⟩
   ·cases h
   ·cases h;exact⟨id,ops,by rw[hd],hl,Bm⟩
  ·cases h
 case rangeFunc=>
  simp only[zbI]at h;obtain⟨_,_,_,_,_,h,_⟩:=zaY h;cases h
 all_goals simp[zbI,zB]at h
theorem zst {x:Opd} {ps:List Nat} {b:C} (h:zbI P I rw L k rc=some (.rangeF x ps b)):
 ∃f aps z y ca cb,rc= .rangeFunc f aps z y/\opd I f=some x/\b= .round ca cb/\zbI P I rw L k z=some ca/\zbI P I rw L k y=some cb/\ca.noRange=true/\cb.noRange=true/\(∀t∈aps.toList,t<k)/\ps=aps.toList:=by
 cases rc<;>simp[zbI,zB]at h
 ·obtain⟨l,_,h⟩:=h;split at h
  ·simp at h
  ·simp at h
 ·rename_i f aps asg y;obtain⟨x',b',a',h1,h2,h3,h4,h5,h6,h7⟩:=zaY h;cases h3;exact⟨f,aps,asg,y,a',b',rfl,h1,rfl,h4,h2,h5,h6,h7,rfl⟩
end
def zl3 (P:Program) (N:Nam) (g:Nat) (e:Ext):Prop:=
 (∃rf,Real P (N.nm g) rf)/\(∀args H n r H' n',zd3 e args H n=some (r,H',n')->zns P N g args H n r H' n')/\ ∀args r,zev e args=some r->zjO P N g args r
def ztu (P:Program) (I:Inv) (N:Nam) (Γ:Nat->Option F):Prop:=
 ∀g fn,Γ g=some fn->(∃rf rw L raw,P.funcs[N.nm g]? =some rf/\zou P I rw L raw rf=some fn)\/ ∃e,fn.body= .ext e/\zl3 P N g e
theorem zh9 {H H':Nat->Option O} {n n' k:Nat} {l:List UInt8} (h:zia H n k l=some (H',n')):n<=n'/\ ∀q,q<n->H q=none->H' q=none:=by
 unfold zia at h;split at h
 ·rename_i hk;split at h
  ·split at h
   ·cases h;exact⟨Nat.le_refl _,fun _ _ h=>h⟩
   ·cases h;refine⟨Nat.le_succ _,fun q hq hn=> ?_⟩;rw[zad _ _ (by rintro rfl;rw[hk]at hn;cases hn),zad _ _ (by omega)];exact hn
  ·cases h
 ·rename_i g hk;split at h
  ·rename_i l0 hg;split at h
   ·cases h;refine⟨Nat.le_succ _,fun q hq hn=> ?_⟩;rw[zad _ _ (by rintro rfl;rw[hk]at hn;cases hn),zad _ _ (by omega),zad _ _ (by rintro rfl;rw[hg]at hn;cases hn)];exact hn
   ·cases h
  ·cases h
 ·cases h
theorem zm6 {e:Ext} {args:List V} {H H':Nat->Option O} {n n':Nat} {r:V} (h:zd3 e args H n=some (r,H',n')):n<=n'/\ ∀k,k<n->H k=none->H' k=none:=by
 unfold zd3 at h;split at h
 ·cases h;exact⟨Nat.le_refl _,fun _ _ h=>h⟩
 ·split at h
  ·rename_i k len rs hk;simp only[zB]at h;obtain⟨zs,_,h⟩:=h;split at h
   ·cases h;refine⟨Nat.le_refl _,fun q _ hq=> ?_⟩;rw[zad];exact hq;rintro rfl;rw[hk]at hq;cases hq
   ·cases h
  ·cases h
 ·cases h;exact⟨Nat.le_refl _,fun _ _ h=>h⟩
 ·split at h
  ·rename_i k len rs hk;simp only[zB]at h;obtain⟨zs,_,h⟩:=h;split at h
   ·cases h;refine⟨Nat.le_refl _,fun q _ hq=> ?_⟩;rw[zad];exact hq;rintro rfl;rw[hk]at hq;cases hq
   ·cases h
  ·cases h
 ·cases h;exact⟨Nat.le_refl _,fun _ _ h=>h⟩
 ·cases h;exact⟨Nat.le_refl _,fun _ _ h=>h⟩
 ·simp only[zB]at h;obtain⟨zs,_,h⟩:=h;split at h
  ·cases h;refine⟨Nat.le_succ _,fun q hq hn=> ?_⟩;rw[zad];exact hn;rintro rfl;exact Nat.lt_irrefl _ hq
  ·cases h
 ·simp only[zE,Prod.exists]at h;obtain⟨a,b,h1,h2⟩:=h;cases h2;exact zh9 h1
 ·split at h
  ·simp only[zE,Prod.exists]at h;obtain⟨a,b,h1,h2⟩:=h;cases h2;exact zh9 h1
  ·cases h
 ·split at h
  ·rename_i hk;cases h;refine⟨Nat.le_refl _,fun q _ hq=> ?_⟩;rw[zad];exact hq;rintro rfl;rw[hk]at hq;cases hq
  ·rename_i g hk;split at h
   ·rename_i l hg;cases h;refine⟨Nat.le_refl _,fun q _ hq=> ?_⟩;rw[zad _ _ (by rintro rfl;rw[hk]at hq;cases hq),zad _ _ (by rintro rfl;rw[hg]at hq;cases hq)];exact hq
   ·cases h
  ·cases h
 ·cases h
def CR (P:Program) (I:Inv) (rc:Code) (m:Nat) (b:C):Prop:= ∃rw L k,k<=m/\zbI P I rw L k rc=some b/\b.noRange=true
theorem zm5 {P:Program} {ro:Option Nat} {m:Machine}:m.fenced P (FW ro):=fenced_wide P m
def Fr (s s':St):Prop:=s.nxt<=s'.nxt/\ ∀k,k<s.nxt->s.heap k=none->s'.heap k=none
def zFh (P:Program) (I:Inv) (N:Nam):Task->Out->Prop
 | .code cd s,.code ex s'=>Fr s s'/\ ∀rw L k rc,zbI P I rw L k rc=some cd-> ∀ro,(ro=none\/cd.noRange=true)-> ∀c ns A μ lam a w,k<=ns->Rel N c ns A μ lam s a w->rc.wpIn (FW ro) 0 P (ztw N c ns ex s') a w
 | .loop b s,.code ex s'=>Fr s s'/\ ∀rw L k rc,zbI P I rw L k rc=some b-> ∀ro,(ro=none\/b.noRange=true)-> ∀c ns A μ lam a w,k<=ns->Rel N c ns A μ lam s a w->
    ∀(b0:Frame) (kk:List Item) (cs:List Frame),b0.roundOf=ro-> ∃e a' w',ztw N c ns ex s' e a' w'/\ArrivesIn (Machine.fenced P (FW ro)) P (lone (b0.atR a (.code rc:: .inLoop rc::kk)) cs w) b0 kk cs e a' w'
 | .ops d p l s,.ops s'=> ∀full:List ROp,full.drop p=l->Run P N d full ((List.range l.length).map (p+ ·)) s s'
 | .pcall g args,.val r=>zjO P N g args r
 | .rcall g args H n,.vals r H' n'=>zns P N g args H n r H' n'/\n<=n'/\ ∀k,k<n->H k=none->H' k=none
 | _,_=>True
theorem Rel.grow {N:Nam} {c:Ctx} {ns:Nat} {A:Nat->Prop} {μ lam:Nat->Nat} {s:St} {a:Act} {w:World} (R:Rel N c ns A μ lam s a w) (n:Nat):Rel N c ns A μ lam (s.begin n) a w:=
 { R with adr:=fun t b o h=>by simp[St.begin]at h,fresh:=fun k h=>R.fresh k (by simp only[St.begin]at h;omega) }
theorem zoW {P:Program} {N:Nam} {d:Bool} {l:List ROp}: ∀{is:List Nat} {s s':St},Run P N d l is s s'->s'.bas=s.bas/\s.nxt<=s'.nxt/\ ∀k,k<s.nxt->(∀i∈is,k≠s.bas+i)->s.heap k=none->s'.heap k=none
 | [],s,s',h=>by cases h;exact⟨rfl,Nat.le_refl _,fun _ _ _ h=>h⟩
 | i::is,s,s',h=>by
   cases h with
   | cons hr h1 h2=>
     obtain⟨a1,a2,a3⟩:=h1.free;obtain⟨b1,b2,b3⟩:=zoW h2;refine⟨by rw[b1,a1],Nat.le_trans a2 b2,fun k hk Az hn=> ?_⟩;exact b3 k (by omega) (fun j hj=>by rw[a1];exact Az j (List.mem_cons_of_mem _ hj)) (a3 k hk (Az i List.mem_cons_self) hn)
theorem zpT {P:Program} {N:Nam} {d:Bool} {l:List ROp} {s s':St} (h:Run P N d l (List.range l.length) (s.begin l.length) s'):Fr s s':=by
 obtain⟨h1,h2,h3⟩:=zoW h;simp only[St.begin]at h1 h2 h3;refine⟨by omega,fun k hk hn=>h3 k (by omega) (fun i _=>by omega) hn⟩
theorem ztw.then {P:Program} {N:Nam} {c:Ctx} {ns:Nat} {ro:Option Nat} {ex:Ex} {s1 s2:St} {rc:Code} (h: ∀A μ lam a w,Rel N c ns A μ lam s1 a w->rc.wpIn (FW ro) 0 P (ztw N c ns ex s2) a w):
 ∀e a w,ztw N c ns .normal s1 e a w->Exit.then (rc.wpIn (FW ro) 0 P (ztw N c ns ex s2)) (ztw N c ns ex s2) e a w:=by
 rintro e a w ⟨rfl,A',μ',lam',R'⟩;exact h A' μ' lam' a w R'
theorem zrQ {N:Nam} {c:Ctx} {ns:Nat} {A:Nat->Prop} {μ lam:Nat->Nat} {s:St} {a:Act} {w:World} (R:Rel N c ns A μ lam s a w) {x y:V} {v:Value} (hr:zbl w A N.nm μ s.heap v x) (hy:reify s.heap x=some y):
 zbl w (fun q=>A q\/MBH s.heap μ q) N.nm (fun _=>0) (fun _=>none) v y:=by
 have Bc: ∀q (l:List Nat),(A q\/ ∃k∈l,zmY s.heap k/\μ k=q)->A q\/MBH s.heap μ q:=by
  rintro q l (h | ⟨k,_,⟨sz,rs,f,hk⟩,rfl⟩)
  ·exact .inl h
  ·cases f with
   | true=>exact .inl (R.afz k sz rs hk)
   | false=>exact .inr ⟨k,_,hk,by simp,rfl,rfl⟩
 have one: ∀{x y:V} {v:Value},zbl w A N.nm μ s.heap v x->toT1 s.heap x=some y->zcl w (fun q=>A q\/MBH s.heap μ q) N.nm (fun _=>0) (fun _=>none) v y:=
  fun hr hy=>(zk9 R.heap hy hr _ _).mono fun q h=>Bc q _ h
 cases x with
 | tup cs=>
   simp only[reify,zE]at hy;obtain⟨ys,FN,rfl⟩:=hy;obtain⟨vs,rfl,hl,h⟩:=hr;obtain⟨m1,m2⟩:=zbb FN;refine⟨vs,rfl,by rw[hl,m1],fun i c hi=> ?_⟩;obtain⟨z,hz,ht⟩:=m2 i c hi;obtain⟨u,hu,DU⟩:=h i z hz
   exact⟨u,hu,one DU.toV ht⟩
 | _=>exact(one hr hy).toV
theorem zte {P:Program} {I:Inv} {N:Nam} {Γ:Nat->Option F} (hI:I.Ok N) (hT:ztu P I N Γ) (Lj:P.follows .mixedOrders=true) (Gc: ∀rc m b,N.cr rc m b<->CR P I rc m b) {t:Task} {o:Out} (h:Big Γ N.G t o):zFh P I N t o:=by
 have An: ∀g fn,Γ g=some fn->(∀e,fn.body≠ .ext e)-> ∃rf rw L body b,P.funcs[N.nm g]? =some rf/\Real P (N.nm g) rf/\rf.body=some body/\zbI P I rw L rf.ntmps body=some b/\fn.body=b/\
  rf.results.toList.length=fn.results.length/\(∀(i:Nat) (x:ResultVar) (y:Res),rf.results.toList[i]? =some x->fn.results[i]? =some y->zo4 P x y):=by
  intro g fn hg Az
  obtain⟨rf,rw,L,raw,h1,h2⟩: ∃rf rw L raw,P.funcs[N.nm g]? =some rf/\zou P I rw L raw rf=some fn:=by
   rcases hT g fn hg with h | ⟨e,he,_⟩
   ·exact h
   ·exact absurd he (Az e)
  simp only[zou,zC,zB]at h2;obtain⟨body,hb,b,hc,rs,AD,h2⟩:=h2;split at h2
  ·simp at h2
  ·rename_i hn;simp only[zA]at h2;subst h2;obtain⟨m1,m2⟩:=zbb AD;refine⟨rf,rw,L,body,b,h1,⟨h1,by rw[hb];rfl,by simpa using hn⟩,hb,hc,rfl,m1,fun i x y hx hy=> ?_⟩;obtain⟨x',Dc,hr⟩:=m2 i y hy;rw[hx]at Dc;cases Dc
   cases x with
   | tmp t=>simp only[zot,zA]at hr;subst hr;rfl
   | cell ad ty=>
     simp only[zot,zC,zB,Prod.exists]at hr;obtain⟨ag,n,A4,hr⟩:=hr;split at hr<;>simp only[zA]at hr<;>subst hr<;>exact⟨rfl,A4⟩
 have D6: ∀g fn,Γ g=some fn-> ∃rf,Real P (N.nm g) rf:=by
  intro g fn hg
  by_cases hx: ∀e,fn.body≠ .ext e
  ·obtain⟨rf,_,_,_,_,_,Bh,_⟩:=An g fn hg hx;exact⟨rf,Bh⟩
  ·rcases hT g fn hg with⟨rf,rw,L,raw,h1,h2⟩ | ⟨e,_,h⟩
   ·exfalso;refine hx fun e he=> ?_
    simp only[zou,zC,zB]at h2;obtain⟨body,hb,b,hc,rs,AD,h2⟩:=h2;split at h2
    ·simp at h2
    ·simp only[zA]at h2;subst h2;simp only at he;subst he;exact zlQ hc
   ·exact h.1
 induction h with
 | skip=>
   refine⟨⟨Nat.le_refl _,fun _ _ h=>h⟩,fun rw L k rc hc ro _ c ns A μ lam a w _ R=> ?_⟩;rcases zuN hc with rfl | ⟨l,rfl⟩
   ·exact wpIn_skip ⟨rfl,A,μ,lam,R⟩
   ·exact wpIn_label ⟨rfl,A,μ,lam,R⟩
 | ret=>
   refine⟨⟨Nat.le_refl _,fun _ _ h=>h⟩,fun rw L k rc hc ro _ c ns A μ lam a w _ R=> ?_⟩;rw[zwS hc]
   exact wpIn_ret ⟨rfl,A,μ,lam,R⟩
 | exit=>
   refine⟨⟨Nat.le_refl _,fun _ _ h=>h⟩,fun rw L k rc hc ro _ c ns A μ lam a w _ R=> ?_⟩;rw[zuP hc]
   exact wpIn_exit ⟨rfl,A,μ,lam,R⟩
 | region h ih=>
   rename_i s s' d l;have A3:=ih l rfl;simp only[Nat.zero_add,List.map_id']at A3;refine⟨zpT A3,fun rw L k rc hc ro B1 c ns A μ lam a w hk R=> ?_⟩;obtain⟨id,ops,rfl,Jn,GW⟩:=zqx hc;obtain⟨h1,h2⟩:=zfK P I Jn
   have EY: ∀(i:Nat) (r:ROp),l[i]? =some r-> ∃o,ops.toList[i]? =some o/\OpRel P I ns ops o r:=by
    intro i r hi;obtain⟨o,ho,hr⟩:=h2 i r hi;refine⟨o,ho,hr.dst,hr.op,fun x hx=>Nat.lt_of_lt_of_le (hr.lt x hx) hk,?_⟩;have hg:=hr.guard;unfold zeR at hg⊢;split at hg
    ·exact hg
    ·split at hg
     ·split at hg
      ·rename_i Ad;simp only[zA]at hg;simp only[Nat.lt_of_lt_of_le Ad hk,if_true,hg]
      ·simp at hg
     ·simp at hg
   have BD: ∀i,i<l.length->(s.begin l.length).heap ((s.begin l.length).bas+i)=none/\(s.begin l.length).bas+i<(s.begin l.length).nxt:=by
    intro i hi;exact⟨R.fresh _ (by simp[St.begin]),by simp only[St.begin];omega⟩
   cases d with
   | false=>
     refine wpIn_region ?_;have AS:ops.size=l.length:=by simpa using h1
     rw[AS]
     exact zrG hI ⟨h1,EY⟩ _ A3 List.nodup_range (fun i hi=>BD i (List.mem_range.1 hi)) (R.grow _) (fun a' w' A' μ' lam' R'=>⟨rfl,A',μ',lam',R'⟩)
   | true=>
     refine wpIn_region_draw fun t=> ?_
     rw[Lj,Region.schedule,Bool.true_or,if_pos rfl]
     exact zkW hI (T:=fun _ _ _=>True) (fun _ _ _ _ _ _=>trivial) (ck:=[]) (by simp) ⟨h1,EY⟩ (GW rfl) _ A3.toT BD (R.grow _).drew (fun a' w' A' μ' lam' R'=>⟨rfl,A',μ',lam',R'⟩) t
 | regionD h FG ih=>
   rename_i s s' ck l;have A3:=ih l rfl;simp only[Nat.zero_add,List.map_id']at A3;refine⟨zpT A3,fun rw L k rc hc ro B1 c ns A μ lam a w hk R=> ?_⟩;obtain⟨id,ops,rfl,Jn,GW,AE⟩:=zn8 hc;obtain⟨h1,h2⟩:=zfK P I Jn
   have EY: ∀(i:Nat) (r:ROp),l[i]? =some r-> ∃o,ops.toList[i]? =some o/\OpRel P I ns ops o r:=by
    intro i r hi;obtain⟨o,ho,hr⟩:=h2 i r hi;refine⟨o,ho,hr.dst,hr.op,fun x hx=>Nat.lt_of_lt_of_le (hr.lt x hx) hk,?_⟩;have hg:=hr.guard;unfold zeR at hg⊢;split at hg
    ·exact hg
    ·split at hg
     ·split at hg
      ·rename_i Ad;simp only[zA]at hg;simp only[Nat.lt_of_lt_of_le Ad hk,if_true,hg]
      ·simp at hg
     ·simp at hg
   have BD: ∀i,i<l.length->(s.begin l.length).heap ((s.begin l.length).bas+i)=none/\(s.begin l.length).bas+i<(s.begin l.length).nxt:=by
    intro i hi;exact⟨R.fresh _ (by simp[St.begin]),by simp only[St.begin];omega⟩
   refine wpIn_region_draw fun t=> ?_
   rw[Lj,Region.schedule,Bool.true_or,if_pos rfl]
   refine zkW hI (T:=zvz N ck s') (fun i r s u he h hm y hy=>⟨(he y hy).1.symm.trans (h hm y hy).1,(he y hy).2.symm.trans (h hm y hy).2⟩) (ck:=ck) (fun j i hm x y hx hy s h1 h2=>znJ FG hm hx hy h1 h2) ⟨h1,EY⟩ GW _
    (A3.annot AE List.pairwise_lt_range) BD (R.grow _).drew (fun a' w' A' μ' lam' R'=>⟨rfl,A',μ',lam',R'⟩) t
 | seqN h1 h2 ih1 ih2=>
   refine⟨⟨Nat.le_trans ih1.1.1 ih2.1.1,fun k hk hn=>ih2.1.2 k (Nat.lt_of_lt_of_le hk ih1.1.1) (ih1.1.2 k hk hn)⟩,fun rw L k rc hc ro B1 c ns A μ lam a w hk R=> ?_⟩;have KH:ro=none\/(_:C).noRange=true:=B1.imp id fun h=>(zF _ _▸h:_/\_).2
   rcases zss hc with⟨x,y,rfl,hx,hy⟩ | ⟨x,rfl,rfl,hx⟩
   rotate_left
   ·rename_i e;cases h1;refine zp1 (wpIn_mono (ih2.2 rw L k x hx ro KH c ns A μ lam a w hk R) ?_);rintro e' a' w' ⟨rfl,R'⟩;cases e<;>exact⟨rfl,R'⟩
   have Ja:ro=none\/(_:C).noRange=true:=B1.imp id fun h=>(zF _ _▸h:_/\_).1
   refine wpIn_seq (wpIn_mono (ih1.2 rw L k x hx ro Ja c ns A μ lam a w hk R) ?_)
   exact ztw.then fun A μ lam a w R'=>ih2.2 rw L k y hy ro KH c ns A μ lam a w hk R'
 | seqX h1 he ih1=>
   rename_i e;refine⟨ih1.1,fun rw L k rc hc ro B1 c ns A μ lam a w hk R=> ?_⟩;rcases zss hc with⟨x,y,rfl,hx,hy⟩ | ⟨x,rfl,rfl,hx⟩
   rotate_left
   ·cases h1;exact absurd rfl he
   have Ja:ro=none\/(_:C).noRange=true:=B1.imp id fun h=>(zF _ _▸h:_/\_).1
   refine wpIn_seq (wpIn_mono (ih1.2 rw L k x hx ro Ja c ns A μ lam a w hk R) ?_);rintro e' a' w' ⟨rfl,R'⟩
   cases e with
   | normal=>exact absurd rfl he
   | exit id=>exact⟨rfl,R'⟩
   | ret=>exact⟨rfl,R'⟩
 | cond CM h ih=>
   refine⟨ih.1,fun rw L k rc hc ro B1 c ns A μ lam a w hk R=> ?_⟩;obtain⟨c0,x,y,rfl,h0,hx,hy⟩:=zuQ hc;refine wpIn_cond (zhc hI R h0 CM) (ih.2 rw L k _ ?_ ro ?_ c ns A μ lam a w hk R)
   ·split
    ·exact hx
    ·exact hy
   ·refine B1.imp id fun h=> ?_
    simp only[C.noRange,zF]at h;split
    ·exact h.1
    ·exact h.2
 | block h ih=>
   rename_i id b e;refine⟨ih.1,fun rw L k rc hc ro B1 c ns A μ lam a w hk R=> ?_⟩;obtain⟨x,rfl,hx⟩:=zsu hc;refine wpIn_block (wpIn_mono (ih.2 rw L k x hx ro B1 c ns A μ lam a w hk R) ?_);rintro e' a' w' ⟨rfl,R'⟩
   cases e with
   | normal=>exact⟨rfl,R'⟩
   | ret=>exact⟨rfl,R'⟩
   | exit id'=>
     simp only[zAL,Exit.inBlock]
     by_cases NO:id'=id
     ·subst NO;simp only[if_true];exact⟨rfl,R'⟩
     ·rw[if_neg NO,if_neg (by simpa using NO)];exact⟨rfl,R'⟩
 | loop h ih=>
   refine⟨ih.1,fun rw L k rc hc ro B1 c ns A μ lam a w hk R=> ?_⟩;obtain⟨x,rfl,hx⟩:=zuO hc;intro b0 kk cs Co _ _;obtain⟨e,a',w',hp,Br⟩:=ih.2 rw L k x hx ro B1 c ns A μ lam a w hk R b0 kk cs Co
   exact⟨e,a',w',hp,.of_steps (.one zm5 stepR_loop) Br⟩
 | loopN h1 h2 ih1 ih2=>
   refine⟨⟨Nat.le_trans ih1.1.1 ih2.1.1,fun k hk hn=>ih2.1.2 k (Nat.lt_of_lt_of_le hk ih1.1.1) (ih1.1.2 k hk hn)⟩,fun rw L k rc hc ro B1 c ns A μ lam a w hk R b0 kk cs Co=> ?_⟩;obtain⟨e,a1,w1,⟨rfl,A',μ',lam',R'⟩,Br⟩:=ih1.2 rw L k rc hc ro B1 c ns A μ lam a w hk R b0 (.inLoop rc::kk) cs Co trivial zjQ;obtain⟨e2,a2,w2,D0,LT⟩:=ih2.2 rw L k rc hc ro B1 c ns A' μ' lam' a1 w1 hk R' b0 kk cs Co
   exact⟨e2,a2,w2,D0,.of_steps (StepsIn.trans Br (.one zm5 stepR_inLoop)) LT⟩
 | loopX h1 he ih1=>
   rename_i e;refine⟨ih1.1,fun rw L k rc hc ro B1 c ns A μ lam a w hk R b0 kk cs Co=> ?_⟩;obtain⟨e',a1,w1,⟨rfl,R'⟩,Br⟩:=ih1.2 rw L k rc hc ro B1 c ns A μ lam a w hk R b0 (.inLoop rc::kk) cs Co trivial zjQ;refine⟨_,a1,w1,⟨rfl,R'⟩,?_⟩
   cases e with
   | normal=>exact absurd rfl he
   | exit id=>exact .pass (x:=.inLoop rc) rfl (fun _ _=> .inl (by simp[zAL])) Br
   | ret=>exact .pass (x:=.inLoop rc) rfl (fun _ _=> .inl (by simp[zAL])) Br
 | opsNil=>
   intro full _
   exact .nil
 | opsSkip hw hf h ih=>
   rename_i p s s' o l;intro full AC;have Ag:full[p]? =some o:=by have:=congrArg (·[0]?) AC;simpa using this
   have BU:full.drop (p+1)=l:=by have:=congrArg List.tail AC;simpa using this
   have hr:=ih full BU;rw[List.length_cons,List.range_succ_eq_map,List.map_cons,List.map_map,Nat.add_zero];refine .cons Ag (.skip hw hf) ?_;have:(fun x=>p+x)∘Nat.succ=fun x=>p+1+x:=by funext x;simp;omega
   rw[this];exact hr
 | opsEff hw hf he h ih=>
   rename_i p s s' o l e;intro full AC;have Ag:full[p]? =some o:=by have:=congrArg (·[0]?) AC;simpa using this
   have BU:full.drop (p+1)=l:=by have:=congrArg List.tail AC;simpa using this
   have hr:=ih full BU;rw[List.length_cons,List.range_succ_eq_map,List.map_cons,List.map_map,Nat.add_zero];refine .cons Ag (.eff hw hf he) ?_;have:(fun x=>p+x)∘Nat.succ=fun x=>p+1+x:=by funext x;simp;omega
   rw[this];exact hr
 | opsPure hw hf ho As Ax hg Ec Au AD hc hd h ihc ih=>
   rename_i d p s s' o l f args fv g a b vs rs fn r;intro full AC;have Ag:full[p]? =some o:=by have:=congrArg (·[0]?) AC;simpa using this
   have BU:full.drop (p+1)=l:=by have:=congrArg List.tail AC;simpa using this
   have hr:=ih full BU;obtain⟨rf,Bh⟩:=D6 g fn hg;rw[List.length_cons,List.range_succ_eq_map,List.map_cons,List.map_map,Nat.add_zero];refine .cons Ag (.pure hw hf ho As Ax Bh Au AD ihc hd) ?_;have:(fun x=>p+x)∘Nat.succ=fun x=>p+1+x:=by funext x;simp;omega
   rw[this];exact hr
 | opsRaw hw hf ho As Ax Bu hg Ec Au hc h ihc ih=>
   rename_i d p s s' o l f args fv g a a0 b vs fn r h' n';intro full AC;have Ag:full[p]? =some o:=by have:=congrArg (·[0]?) AC;simpa using this
   have BU:full.drop (p+1)=l:=by have:=congrArg List.tail AC;simpa using this
   have hr:=ih full BU;obtain⟨rf,Bh⟩:=D6 g fn hg;rw[List.length_cons,List.range_succ_eq_map,List.map_cons,List.map_map,Nat.add_zero];refine .cons Ag (.raw hw hf ho As Ax Bu Bh Au ihc.1 ihc.2.1 ihc.2.2 Ec) ?_;have:(fun x=>p+x)∘Nat.succ=fun x=>p+1+x:=by funext x;simp;omega
   rw[this];exact hr
 | opsFresh hw hf ho As Ax hg Ec Au AD hd hc he h ihc ih=>
   rename_i d p s s' o l f args fv g a b vs rs fn r h' n' e;intro full AC;have Ag:full[p]? =some o:=by have:=congrArg (·[0]?) AC;simpa using this
   have BU:full.drop (p+1)=l:=by have:=congrArg List.tail AC;simpa using this
   have hr:=ih full BU;obtain⟨rf,Bh⟩:=D6 g fn hg;rw[List.length_cons,List.range_succ_eq_map,List.map_cons,List.map_map,Nat.add_zero];refine .cons Ag (.fresh hw hf ho As Ax Bh Au AD hd ihc.1 he) ?_;have:(fun x=>p+x)∘Nat.succ=fun x=>p+1+x:=by funext x;simp;omega
   rw[this];exact hr
 | rangeF As Ax hg Ec hc hl he ihc=>
   rename_i s x ps bd bd' fv g as bs fn r h' n' env' ps' st e;obtain⟨HT,Fj,Fh⟩:=ihc;refine⟨⟨by show s.nxt<=n';omega,fun k hk hn=> ?_⟩,fun rw L k rc Fs ro B1 c ns A μ lam a w hk R=> ?_⟩
   ·show upd h' s.nxt _ k=none;rw[zad _ _ (by omega)];exact Fh k (by omega) (by rw[zad _ _ (by omega)];exact hn)
   ·obtain rfl:ro=none:=B1.resolve_right (by simp[C.noRange]);obtain⟨f,aps,z,y,ca,cb,rfl,hf,rfl,hz,hy,TM,Lc,Ad,rfl⟩:=zst Fs;obtain⟨rf,Bh⟩:=D6 g fn hg
    exact znT hI R hf As Ax Bh ((Gc _ _ _).2 ⟨rw,L,k,hk,hz,TM⟩) ((Gc _ _ _).2 ⟨rw,L,k,hk,hy,Lc⟩) (fun t ht=>Nat.lt_of_lt_of_le (Ad t ht) hk) HT hl he
 | opsYield hw hf ho As AB Au Ac Bi AT CL AF h iha ihb ih=>
   rename_i d p s s' s1 s2 o l f args k vs env env1 env' ps ps1 ps' ca cb bd1 bd' e;intro full AC;have Ag:full[p]? =some o:=by have:=congrArg (·[0]?) AC;simpa using this
   have BU:full.drop (p+1)=l:=by have:=congrArg List.tail AC;simpa using this
   have hr:=ih full BU;rw[List.length_cons,List.range_succ_eq_map,List.map_cons,List.map_map,Nat.add_zero]
   have Hf:zk5 P N ca (zht s.heap s.nxt k env ps (.round ca cb) vs) .normal s1:=by
    intro rc m JU l c A μ lam a w R;obtain⟨rw,L,k',Ah,CZ,Lc⟩:=(Gc _ _ _).1 JU;exact iha.2 rw L k' rc CZ (some l) (.inr Lc) c m A μ lam a w Ah R
   have Hd:zk5 P N cb { s1 with heap:=upd s1.heap k (some (.loop env1 ps1 bd1 .busy)) } e s2:=by
    intro rc m JU l c A μ lam a w R;obtain⟨rw,L,k',Ah,CZ,Lc⟩:=(Gc _ _ _).1 JU;exact ihb.2 rw L k' rc CZ (some l) (.inr Lc) c m A μ lam a w Ah R
   have AG:s.nxt<=s2.nxt/\ ∀q,q<s.nxt->s.heap q=none->s2.heap q=none:=by
    have Az: ∀q,s.heap q=none->q≠k:=by rintro q hn rfl;rw[AB]at hn;cases hn
    refine⟨Nat.le_trans iha.1.1 ihb.1.1,fun q hq hn=>ihb.1.2 q (Nat.lt_of_lt_of_le hq iha.1.1) ?_⟩;show upd s1.heap k _ q=none;rw[zad _ _ (Az q hn)];refine iha.1.2 q hq ?_;show upd s.heap k _ q=none;rw[zad _ _ (Az q hn)];exact hn
   refine .cons Ag (.yld hw hf ho As AB Au Ac Hf AT Hd AF AG) ?_;have:(fun x=>p+x)∘Nat.succ=fun x=>p+1+x:=by funext x;simp;omega
   rw[this];exact hr
 | pcall hg Ec h he hv Bh ih=>
   rename_i g args fn s' e v r;obtain⟨rf,rw,L,body,b,hf,Bb,hb,CZ,rfl,AO,C7⟩:=An g fn hg (fun e he=>by rw[he]at h;cases h);intro A w vs hA JI B0
   have HR:Rel N ⟨w,fun _=>False,A,fun _=>none,fun _=>0⟩ 0 A (fun _=>0) (fun _=>0) (.init [] (fun _=>none) 0) zaM w:=
    { size:=rfl,defers:=zdG.nil _ _ _,env:=fun t=>by simp[St.init,zfz,zaM,zbl],loc:=fun t cs h=>by simp[St.init]at h,adr:=fun t b o h=>by simp[St.init]at h,
      heap:=fun k o h=>by simp[St.init]at h,hinj:=fun k k' o o' h=>by simp[St.init]at h,linj:=fun t t' h=>by simp[St.init]at h,lh:=fun t k o h=>by simp[St.init]at h,
      aH:=fun r _=>by rintro⟨k,o,h,_⟩;simp[St.init]at h,aL:=fun r _=>by rintro⟨t,h,_⟩;simp[St.init]at h,alt:=hA,afz:=fun k sz rs h=>by simp[St.init]at h,fresh:=fun _ _=>rfl,
      glob:=JI,cout:=⟨rfl,rfl⟩,csize:=Nat.le_refl _,ckeep:=fun _ _ _=>rfl,cshp:=fun _ _ h=>h,csub:=fun _ h=>h,canew:=fun _ h=> .inl h,clive:=fun r=>by rintro⟨k,o,h,_⟩;simp[St.init]at h,
      cloc:=fun t h=>by simp[St.init]at h,chp:=fun k o h=>by simp at h }
   have R0:=zmz HR B0 rf.ntmps;refine zhb hf hb he (ih.2 rw L _ body CZ none (.inl rfl) _ _ A _ _ _ w (by simp;omega) R0) ?_;intro A' μ' lam' tmps w' R';obtain⟨v',A3,Ae⟩:=zrM (P:=P) R' AO C7 hv;refine⟨v',A3,v',rfl,R'.cout,R'.csize,fun q hq=>R'.ckeep q hq (fun h=>h),(zrQ R' Ae Bh).mono ?_⟩;rintro q (h | h)
   ·rcases R'.canew q h with h1 | h1 | h1
    ·exact .inl h1
    ·exact h1.elim
    ·exact .inr ⟨h1,R'.alt q h⟩
   ·rcases R'.clive q h with h1 | h1
    ·exact h1.elim
    ·obtain⟨k,o,hk,_,hl,rfl⟩:=h
     exact .inr ⟨h1,R'.lt_live hk hl⟩
 | rcall hg Ec h he hv ih=>
   rename_i g args fn s' e v hp n;obtain⟨rf,rw,L,body,b,hf,Bb,hb,CZ,rfl,AO,C7⟩:=An g fn hg (fun e he=>by rw[he]at h;cases h);refine⟨?_,ih.1.1,ih.1.2⟩;intro c A μ lam w vs HR B0;have R0:=zmz HR B0 rf.ntmps;refine zhb hf hb he (ih.2 rw L _ body CZ none (.inl rfl) _ _ A _ _ _ w (by simp;omega) R0) ?_;intro A' μ' lam' tmps w' R';obtain⟨v',A3,Ae⟩:=zrM (P:=P) R' AO C7 hv
   exact⟨v',A3,v',A',μ',lam',rfl,zmy R',Ae⟩
 | rpure hg Ec AD hc ih=>
   rename_i g args rs fn r hp n;refine⟨zK2 AD ih,Nat.le_refl _,fun k _ hk=> ?_⟩;rcases hq:zbf hp (if r.scalar then []else freezes hp (args.flatMap (zba hp))) k with _ | o
   ·rfl
   ·exfalso;split at hq
    ·rw[show zbf hp [] k=hp k from rfl,hk]at hq;cases hq
    ·rcases zfB hp _ _ k o hq with h | ⟨sz,rs',f,h⟩<;>rw[hk]at h<;>cases h
 | rext hg Ec hb h=>
   rename_i g args fn e r hp h' n n';obtain⟨f1,f2⟩:=zm6 h;refine⟨?_,f1,f2⟩;rcases hT g fn hg with⟨rf,rw,L,raw,h1,h2⟩ | ⟨e',BZ,hx⟩
   ·exfalso;simp only[zou,zC,zB]at h2;obtain⟨body,_,b,hc,rs,AD,h2⟩:=h2;split at h2
    ·simp at h2
    ·simp only[zA]at h2;subst h2;simp only at hb;subst hb;exact zlQ hc
   ·rw[hb]at BZ;cases BZ
    exact hx.2.1 args hp n r h' n' h
 | pext hg Ec hb h=>
   rename_i g args fn e r;rcases hT g fn hg with⟨rf,rw,L,raw,h1,h2⟩ | ⟨e',BZ,hx⟩
   ·exfalso;simp only[zou,zC,zB]at h2;obtain⟨body,_,b,hc,rs,AD,h2⟩:=h2;split at h2
    ·simp at h2
    ·simp only[zA]at h2;subst h2;simp only at hb;subst hb;exact zlQ hc
   ·rw[hb]at BZ;cases BZ;exact hx.2.2 args r h
end Rg
end
section
namespace Rg
open Go
structure Slot where
 v:V
 box:Option (List V)
 ad:Option (Nat×Nat)
structure M where
 sl:Nat->Slot
 used:Nat->Bool
 heap:Nat->Option O
 nxt:Nat
 bas:Nat
def M.st (m:M):St:={ env:=fun t=>(m.sl t).v,loc:=fun t=>(m.sl t).box,adr:=fun t=>(m.sl t).ad,used:=m.used,heap:=m.heap,nxt:=m.nxt,bas:=m.bas }
def beg (f:Nat->Slot):Nat->Slot:=fun t=>{ f t with ad:=none }
def M.begin (m:M) (n:Nat):M:={ m with sl:=beg m.sl,used:=fun _=>false,bas:=m.nxt,nxt:=m.nxt+n }
theorem zoP (m:M) (n:Nat):m.st.begin n=(m.begin n).st:=rfl
def zcy (f:Nat->Slot):Option (Nat×List V)->Nat->Slot
 | none=>f
 | some (b,cs)=>upd f b { f b with box:=some cs }
def M.apply (m:M) (dst:Option Nat) (e:Eff):M:=
 { m with
   sl:=match dst with | none=>zcy m.sl e.wloc | some d=>upd (zcy m.sl e.wloc) d ⟨e.val,e.loc,e.adr⟩
   used:=match e.adr with | some (b,_)=>upd m.used b true | none=>m.used
   heap:=zbf m.heap e.hp }
theorem zeZ (m:M) (dst:Option Nat) (e:Eff):m.st.apply dst e=(m.apply dst e).st:=by
 have hb: ∀(f:Nat->Slot) (w:Option (Nat×List V)) (t:Nat),(zcy f w t).v=(f t).v/\(zcy f w t).ad=(f t).ad/\
  (zcy f w t).box=(match w with | some (b,cs)=>upd (fun t=>(f t).box) b (some cs) | none=>fun t=>(f t).box) t:=by
  intro f w t
  cases w with
  | none=>simp[zcy]
  | some x=>
    obtain⟨b,cs⟩:=x
    by_cases h:t=b
    ·subst h;simp[zcy]
    ·simp[zcy,upd,h]
 cases dst with
 | none=>
   simp only[St.apply,M.apply,M.st,St.mk.injEq,and_true];refine⟨?_,?_,?_,rfl⟩
   ·funext t;exact(hb m.sl e.wloc t).1.symm
   ·funext t;exact(hb m.sl e.wloc t).2.2.symm
   ·funext t;exact(hb m.sl e.wloc t).2.1.symm
 | some d=>
   simp only[St.apply,M.apply,M.st,St.mk.injEq,and_true];refine⟨?_,?_,?_,rfl⟩
   ·funext t
    by_cases h:t=d
    ·subst h;simp
    ·simp[upd,h,(hb m.sl e.wloc t).1]
   ·funext t
    by_cases h:t=d
    ·subst h;simp
    ·rw[zad _ _ h,zad _ _ h];exact(hb m.sl e.wloc t).2.2.symm
   ·funext t
    by_cases h:t=d
    ·subst h;simp
    ·simp[upd,h,(hb m.sl e.wloc t).2.1]
def M.init (args:List V) (h:Nat->Option O) (n:Nat):M:=
 { sl:=fun t=>⟨zfz args t,none,none⟩,used:=fun _=>false,heap:=h,nxt:=n,bas:=n }
theorem zwd (args:List V) (h:Nat->Option O) (n:Nat):St.init args h n=(M.init args h n).st:=rfl
def M.free (m:M) (dst:Option Nat) (e:Eff):Bool:=
 match dst with
 | none=>true
 | some d=> !m.used d&&(match e.adr with | none=>true | some (b,_)=>b != d)
theorem free_of {m:M} {dst:Option Nat} {e:Eff} (h:m.free dst e=true):m.st.free dst e:=by
 intro d hd;subst hd;simp only[M.free,zF,Bool.not_eq_true']at h;refine⟨h.1,fun b o hb=> ?_⟩;rw[hb]at h;simpa using h.2
section
variable (Γ:Nat->Option F) (G:Nat->List T)
def PC (g:Nat) (args:List V) (r:V):Prop:=Big Γ G (.pcall g args) (.val r)
def RC (g:Nat) (args:List V) (h:Nat->Option O) (n:Nat) (r:V) (h':Nat->Option O) (n':Nat):Prop:=Big Γ G (.rcall g args h n) (.vals r h' n')
def zzH (d:Bool) (m:M) (dst:Option Nat) (l:List V) (r:V) (K:M->Prop):Prop:=
 if r.scalar then K (m.apply dst { val:=r })else(d=true->l.flatMap (zba m.heap)=[])/\K (m.apply dst { val:=r,hp:=freezes m.heap (l.flatMap (zba m.heap)) })
def zvr (d:Bool) (m:M) (dst:Option Nat) (g:Nat) (l:List V) (K:M->Prop):Prop:=
 m.free dst {}=true/\ ∃rs,l.mapM (toT1 m.heap)=some rs/\ ∃r,PC Γ G g rs r/\(∃fn,Γ g=some fn/\fn.raw=false)/\zzH d m dst l r K
def zvq (m:M) (dst:Option Nat) (g:Nat) (l:List V) (K:M->Prop):Prop:=
 m.free dst {}=true/\ ∃r h' n',RC Γ G g l m.heap m.nxt r h' n'/\(∃fn,Γ g=some fn/\True)/\K ({ m with heap:=h',nxt:=n' }.apply dst { val:=r })
def zMj (m:M) (dst:Option Nat) (g:Nat) (ks:List Nat) (l:List V) (K:M->Prop):Prop:=
 m.free dst {}=true/\ ∃r h' n',RC Γ G g l m.heap m.nxt r h' n'/\(∃fn,Γ g=some fn/\True)/\(∀k∈ks,h' k=m.heap k)/\K ({ m with heap:=h',nxt:=n' }.apply dst { val:=r })
def zyY (p:Nat) (m:M) (dst:Option Nat) (g:Nat) (l:List V) (K:M->Prop):Prop:=
 m.free dst {}=true/\l.flatMap (zba m.heap)=[]/\ ∃rs,l.mapM (toT1 m.heap)=some rs/\ ∃r h' n',RC Γ G g rs (fun _=>none) 0 r h' n'/\(∃fn,Γ g=some fn/\True)/\ ∃e,zqm (m.bas+p) r h'=some e/\K (m.apply dst e)
def YC (k:Nat) (vs:List V) (h:Nat->Option O) (n:Nat) (r:V) (h':Nat->Option O) (n':Nat):Prop:=
 ∃env ps ca cb s1 env1 ps1 bd1 env' ps' bd' e s2,h k=some (.loop env ps (.round ca cb) .ready)/\vs.length=ps.length/\Big Γ G (.code ca (zht h n k env ps (.round ca cb) vs)) (.code .normal s1)/\
  s1.heap k=some (.loop env1 ps1 bd1 .enter)/\Big Γ G (.code cb { s1 with heap:=upd s1.heap k (some (.loop env1 ps1 bd1 .busy)) }) (.code e s2)/\s2.heap k=some (.loop env' ps' bd' .busy)/\
  r= .t (.bool (decide (e=Ex.normal)))/\h'=upd s2.heap k (some (.loop env' ps' bd' e.toL))/\n'=s2.nxt
def zvp (m:M) (dst:Option Nat) (k:Nat) (l:List V) (K:M->Prop):Prop:=
 m.free dst {}=true/\ ∃r h' n',YC Γ G k l m.heap m.nxt r h' n'/\K ({ m with heap:=h',nxt:=n' }.apply dst { val:=r })
def ztL:V->Option Nat
 | .yl k=>some k
 | _=>none
def ziE (d:Bool) (p:Nat) (m:M) (dst:Option Nat) (op:AOp) (K:M->Prop):Prop:=
 match op with
 | .call raw f args=>
   match(evl G m.st f).bind zfC,zgE G m.st args with
   | some (g,a,b),some vs=>if raw then(match zJ3 m.heap a with | some a'=>(match zHX f with | true=>zMj Γ G m dst g (zid G m.st args) (a'++vs++b) K | false=>zvq Γ G m dst g (a'++vs++b) K) | none=>False)else zvr Γ G d m dst g (a++vs++b) K
   | none,some vs=>match(evl G m.st f).bind ztL with
     | some k=>raw=true/\zvp Γ G m dst k vs K
     | none=>False
   | _,_=>False
 | .fcall f args=>
   match(evl G m.st f).bind zfC,zgE G m.st args with
   | some (g,a,b),some vs=>zyY Γ G p m dst g (a++vs++b) K
   | _,_=>False
 | op=>match zaj G p m.st op with
   | none=>False
   | some e=>m.free dst e=true/\K (m.apply dst e)
def wpO (d:Bool):Nat->List ROp->M->(M->Prop)->Prop
 | _,[],m,Q=>Q m
 | p,o::l,m,Q=>
   match zcs m.st o.guard with
   | none=>False
   | some b=>if b=true then ziE Γ G d p m o.dst o.op (fun m'=>wpO d (p+1) l m' Q)else m.free o.dst {}=true/\wpO d (p+1) l (m.apply o.dst {}) Q
def W (c:C) (m:M) (Q:Ex->M->Prop):Prop:= ∃e m',Big Γ G (.code c m.st) (.code e m'.st)/\Q e m'
def WL (c:C) (m:M) (Q:Ex->M->Prop):Prop:= ∃e m',Big Γ G (.loop c m.st) (.code e m'.st)/\Q e m'
def WO (d:Bool) (p:Nat) (l:List ROp) (m:M) (Q:M->Prop):Prop:= ∃m',Big Γ G (.ops d p l m.st) (.ops m'.st)/\Q m'
end
section
variable {Γ:Nat->Option F} {G:Nat->List T}
theorem zl2 {d:Bool}: ∀{l:List ROp} {p:Nat} {m:M} {Q:M->Prop},wpO Γ G d p l m Q->WO Γ G d p l m Q
 | [],p,m,Q,h=>⟨m,.opsNil,h⟩
 | o::l,p,m,Q,h=>by
   simp only[wpO]at h;split at h
   ·exact h.elim
   ·rename_i b hw;split at h
    ·rename_i hb;subst hb;unfold ziE at h;split at h
     ·rename_i raw f args ho;split at h
      ·rename_i g a b vs As Au;simp only[zB]at As;obtain⟨fv,As,Ax⟩:=As;split at h
       ·rename_i HT;subst HT;split at h
        ·rename_i a' Bu;split at h
         ·obtain⟨hf,r,h',n',hc,⟨fn,hg,hr⟩,Dn,hk⟩:=h;obtain⟨m',hB,hQ⟩:=zl2 hk;refine⟨m',.opsRaw hw (free_of hf) ho As Ax Bu hg (fun _=>Dn) Au hc ?_,hQ⟩;rw[<- zeZ]at hB;exact hB
         ·rename_i Q0;obtain⟨hf,r,h',n',hc,⟨fn,hg,hr⟩,hk⟩:=h;obtain⟨m',hB,hQ⟩:=zl2 hk;refine⟨m',.opsRaw hw (free_of hf) ho As Ax Bu hg (fun hk=>by rw[Q0]at hk;cases hk) Au hc ?_,hQ⟩;rw[<- zeZ]at hB;exact hB
        ·exact h.elim
       ·rename_i HT;have HT:raw=false:=by simpa using HT
        subst HT;obtain⟨hf,rs,AD,r,hc,⟨fn,hg,hr⟩,hk⟩:=h;unfold zzH at hk;split at hk
        ·rename_i Iv;obtain⟨m',hB,hQ⟩:=zl2 hk;refine⟨m',.opsPure hw (free_of hf) ho As Ax hg hr Au AD hc (fun _=> .inl Iv) ?_,hQ⟩;rw[if_pos Iv,zeZ];exact hB
        ·rename_i Iv;obtain⟨hd,hk⟩:=hk;obtain⟨m',hB,hQ⟩:=zl2 hk;refine⟨m',.opsPure hw (free_of hf) ho As Ax hg hr Au AD hc (fun h=> .inr (hd h)) ?_,hQ⟩;rw[if_neg Iv,zeZ];exact hB
      ·rename_i vs Ax Au;split at h
       ·rename_i k hk;obtain⟨rfl,hf,r,h',n',⟨env,ps,ca,cb,s1,env1,ps1,bd1,env',ps',bd',e,s2,g1,g2,g3,g3',g3'',g4,rfl,rfl,rfl⟩,hK⟩:=h;simp only[zB]at hk;obtain⟨fv,As,Fp⟩:=hk
        have AY:evl G m.st f=some (.yl k):=by
         cases fv<;>simp[ztL]at Fp
         subst Fp;exact As
        obtain⟨m',hB,hQ⟩:=zl2 hK;refine⟨m',.opsYield hw (free_of hf) ho AY g1 Au g2 g3 g3' g3'' g4 ?_,hQ⟩;rw[<- zeZ]at hB;exact hB
       ·exact h.elim
      ·exact h.elim
     ·rename_i f args ho;split at h
      ·rename_i g a b vs As Au;simp only[zB]at As;obtain⟨fv,As,Ax⟩:=As;obtain⟨hf,EA,rs,AD,r,h',n',hc,⟨fn,hg,hr⟩,e,he,hk⟩:=h;obtain⟨m',hB,hQ⟩:=zl2 hk;refine⟨m',.opsFresh hw (free_of hf) ho As Ax hg hr Au AD EA hc he ?_,hQ⟩;rw[zeZ];exact hB
      ·exact h.elim
     ·split at h
      ·exact h.elim
      ·rename_i e he;obtain⟨hf,hk⟩:=h;obtain⟨m',hB,hQ⟩:=zl2 hk;exact⟨m',.opsEff hw (free_of hf) he (by rw[zeZ];exact hB),hQ⟩
    ·rename_i hb;have hb:b=false:=by simpa using hb
     subst hb;obtain⟨hf,hk⟩:=h;obtain⟨m',hB,hQ⟩:=zl2 hk;exact⟨m',.opsSkip hw (free_of hf) (by rw[zeZ];exact hB),hQ⟩
theorem zvx {d:Bool} {l:List ROp} {m:M} {Q:Ex->M->Prop} (h:wpO Γ G d 0 l (m.begin l.length) (Q .normal)):W Γ G (.region d l) m Q:=by
 obtain⟨m',hB,hQ⟩:=zl2 h;exact⟨.normal,m',.region (by rw[zoP];exact hB),hQ⟩
theorem ztr {ck:List (Nat×Nat)} {l:List ROp} {m:M} {Q:Ex->M->Prop} (h:wpO Γ G true 0 l (m.begin l.length) (fun m'=>zgO G m'.st l ck=true/\Q .normal m')):W Γ G (.regionD ck l) m Q:=by
 obtain⟨m',hB,hc,hQ⟩:=zl2 h;exact⟨.normal,m',.regionD (by rw[zoP];exact hB) hc,hQ⟩
theorem zy8 {m:M} {Q:Ex->M->Prop} (h:Q .normal m):W Γ G .skip m Q:=⟨_,_,.skip,h⟩
theorem zBX {m:M} {Q:Ex->M->Prop} (h:Q .ret m):W Γ G .ret m Q:=⟨_,_,.ret,h⟩
theorem zza {m:M} {id:Nat} {Q:Ex->M->Prop} (h:Q (.exit id) m):W Γ G (.exit id) m Q:=⟨_,_,.exit,h⟩
def zf8 (K:M->Prop) (Q:Ex->M->Prop):Ex->M->Prop
 | .normal,m=>K m
 | e,m=>Q e m
theorem zBW {a b:C} {m:M} {Q:Ex->M->Prop} (h:W Γ G a m (zf8 (fun m'=>W Γ G b m' Q) Q)):W Γ G (.seq a b) m Q:=by
 obtain⟨e,m1,h1,hQ⟩:=h
 cases e with
 | normal=>obtain⟨e,m2,h2,hQ⟩:=hQ;exact⟨e,m2,.seqN h1 h2,hQ⟩
 | exit id=>exact⟨_,m1,.seqX h1 (by simp),hQ⟩
 | ret=>exact⟨_,m1,.seqX h1 (by simp),hQ⟩
theorem zzb {c:Opd} {a b:C} {m:M} {Q:Ex->M->Prop} {t:Bool} (hc:zd5 G m.st c=some t) (h1:t=true->W Γ G a m Q) (h2:t=false->W Γ G b m Q):W Γ G (.cond c a b) m Q:=by
 cases t with
 | true=>obtain⟨e,m',h,hQ⟩:=h1 rfl;exact⟨e,m',.cond hc h,hQ⟩
 | false=>obtain⟨e,m',h,hQ⟩:=h2 rfl;exact⟨e,m',.cond hc h,hQ⟩
def zjI (id:Nat) (Q:Ex->M->Prop) (e:Ex) (m:M):Prop:=Q (if e= .exit id then .normal else e) m
theorem zxn {id:Nat} {b:C} {m:M} {Q:Ex->M->Prop} (h:W Γ G b m (zjI id Q)):W Γ G (.block id b) m Q:=by
 obtain⟨e,m',h,hQ⟩:=h;exact⟨_,m',.block h,hQ⟩
theorem zxm {x:Opd} {ps:List Nat} {bd bd':C} {m:M} {Q:Ex->M->Prop} {fv:V} {g:Nat} {a b:List V} {r:V} {h':Nat->Option O} {n':Nat} {env':Nat->V} {ps':List Nat} {st:LSt} {e:Ex}
 (As:evl G m.st x=some fv) (Ax:zfC fv=some (g,a,b)) (hg: ∃fn,Γ g=some fn/\True)
 (hc:RC Γ G g (a++[.yl m.nxt]++b) (upd m.heap m.nxt (some (.loop (fun t=>(m.sl t).v) ps bd .ready))) (m.nxt+1) r h' n')
 (hl:h' m.nxt=some (.loop env' ps' bd' st)) (he:st.ends=some e) (hQ:Q e { m with heap:=upd h' m.nxt (some .dead),nxt:=n' }):W Γ G (.rangeF x ps bd) m Q:=by
 obtain⟨fn,hg,hr⟩:=hg;exact⟨e,_,.rangeF As Ax hg hr hc hl he,hQ⟩
theorem zy9 {b:C} {m:M} {Q:Ex->M->Prop} (h:WL Γ G b m Q):W Γ G (.loop b) m Q:=by
 obtain⟨e,m',h,hQ⟩:=h;exact⟨e,m',.loop h,hQ⟩
theorem ztt {b:C} {m:M} {Q:Ex->M->Prop} (h:W Γ G b m (zf8 (fun m'=>WL Γ G b m' Q) Q)):WL Γ G b m Q:=by
 obtain⟨e,m1,h1,hQ⟩:=h
 cases e with
 | normal=>obtain⟨e,m2,h2,hQ⟩:=hQ;exact⟨e,m2,.loopN h1 h2,hQ⟩
 | exit id=>exact⟨_,m1,.loopX h1 (by simp),hQ⟩
 | ret=>exact⟨_,m1,.loopX h1 (by simp),hQ⟩
theorem zts {c:C} {m:M} {Q Q':Ex->M->Prop} (h:W Γ G c m Q) (hq: ∀e m',Q e m'->Q' e m'):W Γ G c m Q':=by
 obtain⟨e,m',h,hQ⟩:=h;exact⟨e,m',h,hq _ _ hQ⟩
theorem zBZ {g:Nat} {args:List V} {fn:F} {r:V} (hg:Γ g=some fn) (hr:fn.raw=false)
 (h:W Γ G fn.body (.init args (fun _=>none) 0) (fun e m=>(∀id,e≠ .exit id)/\ ∃v,zeM m.st fn.results=some v/\reify m.heap v=some r)):PC Γ G g args r:=by
 obtain⟨e,m',hB,he,v,hv,Bh⟩:=h;exact .pcall hg hr hB he hv Bh
end
end Rg
end
section
namespace Rg
open Go
def zdx (E:List (Nat×Nat)) (t:Nat):Nat:=(E.lookup t).getD t
def zvM (E:List (Nat×Nat)) (o:ROp):List Nat:=
 o.dst.toList++(match o.op with | .storeL _ (.s t) _=>[zdx E t] | _=>[])
def opE (E:List (Nat×Nat)) (o:ROp):List (Nat×Nat):=
 match o.dst with
 | none=>E
 | some d=>match o.op with
   | .faddrL _ (.s x)=>(d,zdx E x)::E
   | .iaddrAL _ _ (.s x) _=>(d,zdx E x)::E
   | _=>(d,d)::E
def zjZ (W:List Nat):List (Nat×Nat)->List ROp->Bool
 | _,[]=>true
 | E,o::l=>(zvM E o).all (W.contains ·)&&zjZ W (opE E o) l
def C.wrIn (W:List Nat):C->Bool
 | .skip | .ret | .exit _ | .ext _=>true
 | .region _ l=>zjZ W [] l
 | .regionD _ l=>zjZ W [] l
 | .seq a b=>a.wrIn W&&b.wrIn W
 | .cond _ a b=>a.wrIn W&&b.wrIn W
 | .block _ b=>b.wrIn W
 | .loop b=>b.wrIn W
 | .rangeF _ _ _=>true
 | .round _ _=>true
def AOp.noH:AOp->Bool
 | .allocH _ | .allocB | .mkfnT _ _ | .boxH _ _ | .boxA _ _ | .allocA _ | .storeA _ _ _ | .bslice _ _ _ _ | .store _ _ _ | .mkslice _ _ _ _ _ | .appz _ _ _ _ _ | .append _ _ _ _ | .copy _ _ _ | .clear _ _ _ | .mkmap | .mapupd _ _ _ _=>false
 | .call r _ _=> !r
 | .fcall _ _=>false
 | _=>true
def C.noH:C->Bool
 | .skip | .ret | .exit _ | .ext _=>true
 | .region _ l=>l.all fun o=>o.op.noH
 | .regionD _ l=>l.all fun o=>o.op.noH
 | .seq a b=>a.noH&&b.noH
 | .cond _ a b=>a.noH&&b.noH
 | .block _ b=>b.noH
 | .loop b=>b.noH
 | .rangeF _ _ _=>false
 | .round _ _=>false
def zcE (W:List Nat) (s s':St):Prop:= ∀t,W.contains t=false->s'.env t=s.env t/\s'.loc t=s.loc t
theorem zcE.refl (W:List Nat) (s:St):zcE W s s:=fun _ _=>⟨rfl,rfl⟩
theorem zcE.trans {W:List Nat} {a b c:St} (h1:zcE W a b) (h2:zcE W b c):zcE W a c:=
 fun t ht=>⟨(h2 t ht).1.trans (h1 t ht).1,(h2 t ht).2.trans (h1 t ht).2⟩
def zfj (E:List (Nat×Nat)) (s:St):Prop:= ∀t,(∀b o,s.adr t=some (b,o)->zdx E t=b)/\(s.adr t=none->s.env t= .lb->zdx E t=t)
theorem ziU {E:List (Nat×Nat)} {s:St} {t b o:Nat} (h:zfj E s) (hr:zd8 s (.s t)=some (b,o)):zdx E t=b:=by
 simp only[zd8]at hr;split at hr
 ·rename_i r Dz;simp only[zA]at hr;subst hr;exact(h t).1 b o Dz
 ·rename_i hn;split at hr
  ·rename_i hl;simp only[zA,Prod.mk.injEq]at hr;obtain⟨rfl,_⟩:=hr;exact(h t).2 hn hl
  ·simp at hr
theorem zdh (d x t:Nat) (E:List (Nat×Nat)):zdx ((d,x)::E) t=if t=d then x else zdx E t:=by
 simp only[zdx,List.lookup]
 by_cases h:t=d
 ·subst h;simp
 ·simp[h,beq_eq_false_iff_ne.2 h]
theorem zxU {G:Nat->List T} {p:Nat} {s:St} {op:AOp} {e:Eff} (h:zaj G p s op=some e) (hn:zj2 op=false):e.adr=none:=by
 cases op
 all_goals(try(simp[zj2]at hn;done))
 all_goals simp only[zaj,zC,zB,zA,Prod.exists]at h
 all_goals(try(repeat(first | (obtain⟨_,_,h⟩:=h) | split at h | (simp only[zB,zA]at h))))
 all_goals(try(repeat(first | (obtain⟨_,_,h⟩:=h) | split at h | (simp only[zB,zA]at h))))
 all_goals(try(repeat(first | (obtain⟨_,_,h⟩:=h) | split at h | (simp only[zB]at h))))
 all_goals(try(repeat(first | (obtain⟨_,_,h⟩:=h) | split at h | (simp only[zB]at h))))
 all_goals(try(simp at h;done))
 all_goals(try(obtain⟨_,_,rfl⟩:=h))
 all_goals(try subst h)
 all_goals rfl
theorem zrR {s:St} {x:Opd} {b o:Nat} (h:zd8 s x=some (b,o)): ∃t,x= .s t:=by
 cases x with
 | s t=>exact⟨t,rfl⟩
 | c v=>simp[zd8]at h
 | g k=>simp[zd8]at h
 | m mt t=>simp[zd8]at h
theorem znq {G:Nat->List T} {p:Nat} {s:St} {off:Nat} {x:Opd} {e:Eff} {E:List (Nat×Nat)} (h:zfj E s) (he:zaj G p s (.faddrL off x)=some e):
 ∃t o,x= .s t/\e.adr=some (zdx E t,o):=by
 simp only[zaj,zC,zB,zA,Prod.exists]at he;obtain⟨b,o,hr,cs,AL,rfl⟩:=he;obtain⟨t,rfl⟩:=zrR hr;exact⟨t,o+off,rfl,by rw[ziU h hr]⟩
theorem zl0 {G:Nat->List T} {p:Nat} {s:St} {len sz:Nat} {x i:Opd} {e:Eff} {E:List (Nat×Nat)} (h:zfj E s) (he:zaj G p s (.iaddrAL len sz x i)=some e):
 ∃t o,x= .s t/\e.adr=some (zdx E t,o):=by
 simp only[zaj,zC,zB,Prod.exists]at he;obtain⟨n,hn,b,o,hr,cs,AL,he⟩:=he;obtain⟨t,rfl⟩:=zrR hr;split at he
 ·simp only[zA]at he;subst he;exact⟨t,o+n.toNat*sz,rfl,by rw[ziU h hr]⟩
 ·simp at he
theorem zq1 {G:Nat->List T} {p:Nat} {s:St} {op:AOp} {e:Eff} {E:List (Nat×Nat)} {b:Nat} {cs:List V} (h:zfj E s) (he:zaj G p s op=some e) (hb:e.wloc=some (b,cs)):
 ∃n t v,op= .storeL n (.s t) v/\zdx E t=b:=by
 by_cases hw:op.wrL=true
 ·cases op<;>simp[AOp.wrL]at hw
  rename_i n x v;simp only[zaj,zC,zB,Prod.exists]at he;obtain⟨b',o,hr,cs',Oc,v',BQ,new,B2,he⟩:=he;split at he
  ·simp only[zB,zA]at he;obtain⟨cs2,FE,rfl⟩:=he;simp only[zA,Prod.mk.injEq]at hb;obtain⟨rfl,_⟩:=hb;obtain⟨t,rfl⟩:=zrR hr;exact⟨n,t,v,rfl,ziU h hr⟩
  ·simp at he
 ·have:=znH he (by simpa using hw);rw[this]at hb;simp at hb
theorem ztj {G:Nat->List T} {p:Nat} {s:St} {o:ROp} {e:Eff} {E:List (Nat×Nat)} {W:List Nat} (h:zfj E s) (he:zaj G p s o.op=some e) (hw:(zvM E o).all (W.contains ·)=true):
 zcE W s (s.apply o.dst e)/\zfj (opE E o) (s.apply o.dst e):=by
 have Aa: ∀x∈zvM E o,W.contains x=true:=by simpa using hw
 constructor
 ·intro t ht
  have hd: ∀d,o.dst=some d->t≠d:=by
   rintro d hd rfl;have:=Aa t (by simp[zvM,hd]);rw[this]at ht;simp at ht
  have Er: ∀b cs,e.wloc=some (b,cs)->t≠b:=by
   rintro b cs hb rfl;obtain⟨n,t',v,ho,hr⟩:=zq1 h he hb;have:=Aa t (by simp[zvM,ho,hr]);rw[this]at ht;simp at ht
  have Db:(match e.wloc with | some (b,cs)=>upd s.loc b (some cs) | none=>s.loc) t=s.loc t:=by
   cases hq:e.wloc with
   | none=>rfl
   | some x=>obtain⟨b,cs⟩:=x;exact zad _ _ (Er b cs hq)
  cases AI:o.dst with
  | none=>exact⟨rfl,Db⟩
  | some d=>exact⟨zad _ _ (hd d AI),by simp only[St.apply];rw[zad _ _ (hd d AI)];exact Db⟩
 ·intro t
  cases AI:o.dst with
  | none=>simp only[opE,AI];exact h t
  | some d=>
    by_cases HH:t=d
    ·subst HH;simp only[opE,AI,St.apply,zaz]
     by_cases ha:zj2 o.op=true
     ·cases Ao:o.op<;>rw[Ao]at ha<;>simp[zj2]at ha
      ·rw[Ao]at he;obtain⟨t',o',rfl,It⟩:=znq h he;simp only[zdh,It];exact⟨fun b o hb=>by simp only[zA,Prod.mk.injEq]at hb;exact hb.1,by simp⟩
      ·rw[Ao]at he;obtain⟨t',o',rfl,It⟩:=zl0 h he;simp only[zdh,It];exact⟨fun b o hb=>by simp only[zA,Prod.mk.injEq]at hb;exact hb.1,by simp⟩
     ·have hn:=zxU he (by simpa using ha);rw[hn];refine⟨by simp,fun _ _=> ?_⟩;split
      ·rename_i hx;rw[hx]at ha;simp[zj2]at ha
      ·rename_i hx;rw[hx]at ha;simp[zj2]at ha
      ·simp[zdh]
    ·have h1:(s.apply (some d) e).adr t=s.adr t:=zad _ _ HH;have h2:(s.apply (some d) e).env t=s.env t:=zad _ _ HH
     have h3:zdx (opE E o) t=zdx E t:=by
      simp only[opE,AI];split<;>simp[zdh,HH]
     rw[h1,h2,h3];exact h t
theorem ziW {s:St} {o:ROp} {v:V} {hp:List (Nat×O)} {E:List (Nat×Nat)} {W:List Nat} (h:zfj E s) (hv:v≠ .lb\/zj2 o.op=false) (hw:(zvM E o).all (W.contains ·)=true):
 zcE W s (s.apply o.dst { val:=v,hp:=hp })/\zfj (opE E o) (s.apply o.dst { val:=v,hp:=hp }):=by
 have Aa: ∀x∈zvM E o,W.contains x=true:=by simpa using hw
 constructor
 ·intro t ht
  have hd: ∀d,o.dst=some d->t≠d:=by
   rintro d hd rfl;have:=Aa t (by simp[zvM,hd]);rw[this]at ht;simp at ht
  cases AI:o.dst with
  | none=>exact⟨rfl,rfl⟩
  | some d=>exact⟨zad _ _ (hd d AI),by simp only[St.apply];rw[zad _ _ (hd d AI)]⟩
 ·intro t
  cases AI:o.dst with
  | none=>simp only[opE,AI];exact h t
  | some d=>
    by_cases HH:t=d
    ·subst HH;simp only[St.apply,zaz];refine⟨by simp,fun _ h=> ?_⟩;rcases hv with hv | hv
     ·exact absurd h hv
     ·simp only[opE,AI];split
      ·rename_i hx;rw[hx]at hv;simp[zj2]at hv
      ·rename_i hx;rw[hx]at hv;simp[zj2]at hv
      ·simp[zdh]
    ·have h1:(s.apply (some d) { val:=v,hp:=hp }).adr t=s.adr t:=zad _ _ HH;have h2:(s.apply (some d) { val:=v,hp:=hp }).env t=s.env t:=zad _ _ HH
     have h3:zdx (opE E o) t=zdx E t:=by
      simp only[opE,AI];split<;>simp[zdh,HH]
     rw[h1,h2,h3];exact h t
theorem zhe (W:List Nat) (s:St) (n:Nat):zcE W s (s.begin n)/\zfj [] (s.begin n):=
 ⟨fun _ _=>⟨rfl,rfl⟩,fun t=>⟨fun b o h=>by simp[St.begin]at h,fun _ _=>by simp[zdx]⟩⟩
def zB2 (W:List Nat):Task->Out->Prop
 | .code c s,.code _ s'=>c.wrIn W=true->zcE W s s'
 | .loop c s,.code _ s'=>c.wrIn W=true->zcE W s s'
 | .ops _ _ l s,.ops s'=> ∀E,zfj E s->zjZ W E l=true->zcE W s s'
 | _,_=>True
theorem ztf {Γ:Nat->Option F} {G:Nat->List T} {W:List Nat} {t:Task} {o:Out} (h:Big Γ G t o):zB2 W t o:=by
 induction h with
 | skip=>intro _;exact .refl _ _
 | ret=>intro _;exact .refl _ _
 | exit=>intro _;exact .refl _ _
 | region h ih=>intro hw;exact(zhe W _ _).1.trans (ih [] (zhe W _ _).2 hw)
 | regionD h _ ih=>intro hw;exact(zhe W _ _).1.trans (ih [] (zhe W _ _).2 hw)
 | seqN h1 h2 ih1 ih2=>
   intro hw;simp only[C.wrIn,zF]at hw
   exact(ih1 hw.1).trans (ih2 hw.2)
 | seqX h1 he ih1=>
   intro hw;simp only[C.wrIn,zF]at hw
   exact ih1 hw.1
 | cond hc h ih=>
   rename_i t;intro hw;simp only[C.wrIn,zF]at hw
   cases t with
   | true=>exact ih hw.1
   | false=>exact ih hw.2
 | block h ih=>intro hw;exact ih hw
 | loop h ih=>intro hw;exact ih hw
 | loopN h1 h2 ih1 ih2=>intro hw;exact(ih1 hw).trans (ih2 hw)
 | loopX h1 he ih1=>intro hw;exact ih1 hw
 | opsNil=>intro E _ _;exact .refl _ _
 | opsSkip hw hf h ih=>
   intro E hE Aj;simp only[zjZ,zF]at Aj;obtain⟨h1,h2⟩:=ziW (v:=.undef) (hp:=[]) hE (.inl (by simp)) Aj.1
   exact h1.trans (ih _ h2 Aj.2)
 | opsEff hw hf he h ih=>
   intro E hE Aj;simp only[zjZ,zF]at Aj;obtain⟨h1,h2⟩:=ztj hE he Aj.1
   exact h1.trans (ih _ h2 Aj.2)
 | opsPure hw hf ho As Ax hg Ec Au AD hc hd h ihc ih=>
   intro E hE Aj;simp only[zjZ,zF]at Aj;obtain⟨h1,h2⟩:=ziW hE (.inr (by rw[ho];rfl)) Aj.1
   exact h1.trans (ih _ h2 Aj.2)
 | opsRaw hw hf ho As Ax Bu hg Ec Au hc h ihc ih=>
   rename_i d p s s' o l f args fv g a a0 b vs fn r h' n';intro E hE Aj;simp only[zjZ,zF]at Aj;have OB:zfj E { s with heap:=h',nxt:=n' }:=hE;obtain⟨h1,h2⟩:=ziW (v:=r) (hp:=[]) OB (.inr (by rw[ho];rfl)) Aj.1;have h3:zcE W s { s with heap:=h',nxt:=n' }:=fun _ _=>⟨rfl,rfl⟩
   exact h3.trans (h1.trans (ih _ h2 Aj.2))
 | rangeF=>intro _;exact fun _ _=>⟨rfl,rfl⟩
 | opsYield hw hf ho As AB Au Ac Bi AT CL AF h iha ihb ih=>
   rename_i d p s s' s1 s2 o l f args k vs env env1 env' ps ps1 ps' ca cb bd1 bd' e;intro E hE Aj;simp only[zjZ,zF]at Aj;have OB:zfj E { s with heap:=upd s2.heap k (some (.loop env' ps' bd' e.toL)),nxt:=s2.nxt }:=hE;obtain⟨h1,h2⟩:=ziW (v:=.t (.bool (decide (e=Ex.normal)))) (hp:=[]) OB (.inr (by rw[ho];rfl)) Aj.1;have h3:zcE W s { s with heap:=upd s2.heap k (some (.loop env' ps' bd' e.toL)),nxt:=s2.nxt }:=fun _ _=>⟨rfl,rfl⟩
   exact h3.trans (h1.trans (ih _ h2 Aj.2))
 | opsFresh hw hf ho As Ax hg Ec Au AD hd hc he h ihc ih=>
   rename_i e;intro E hE Aj;simp only[zjZ,zF]at Aj;obtain⟨s1,s2,s3⟩:=zeP he;obtain⟨ev,ea,el,ew,eh⟩:=e;simp only at s1 s2 s3;subst s1;subst s2;subst s3;obtain⟨h1,h2⟩:=ziW hE (.inr (by rw[ho];rfl)) Aj.1
   exact h1.trans (ih _ h2 Aj.2)
 | pcall=>trivial
 | rcall=>trivial
 | rpure=>trivial
 | rext=>trivial
 | pext=>trivial
def zdI (h h':Nat->Option O):Prop:= ∀k,(h k=none->h' k=none)/\ ∀o,h k=some o->h' k=some o\/ ∃sz rs b,o= .rows sz rs b/\h' k=some (.rows sz rs true)
theorem zdI.refl (h:Nat->Option O):zdI h h:=fun _=>⟨fun h=>h,fun _ h=> .inl h⟩
theorem zdI.trans {a b c:Nat->Option O} (h1:zdI a b) (h2:zdI b c):zdI a c:=fun k=>⟨fun h=>(h2 k).1 ((h1 k).1 h),fun o h=>by
 rcases(h1 k).2 o h with hq | ⟨sz,rs,z,rfl,hq⟩
 ·exact(h2 k).2 o hq
 ·rcases(h2 k).2 _ hq with hr | ⟨sz',rs',z',hb,hr⟩
  ·exact .inr ⟨sz,rs,z,rfl,hr⟩
  ·cases hb;exact .inr ⟨sz,rs,z,rfl,hr⟩⟩
theorem zj3 (h:Nat->Option O) (l:List Nat):zdI h (zbf h (freezes h l)):=by
 have key: ∀(l:List Nat) (g:Nat->Option O),zdI h g->zdI h (zbf g (freezes h l)):=by
  intro l
  induction l with
  | nil=>intro g hg;exact hg
  | cons x l ih=>
    intro g hg
    cases hx:h x with
    | none=>simpa[freezes,hx]using ih g hg
    | some o=>
      cases o with
      | rows sz rs b=>
        have:freezes h (x::l)=(x,.rows sz rs true)::freezes h l:=by simp[freezes,hx]
        rw[this];simp only[zbf];refine ih _ fun k=> ?_
        by_cases hk:k=x
        ·subst hk;refine⟨fun hn=>by simp[hx]at hn,fun o ho=> ?_⟩;rw[hx]at ho;cases ho;exact .inr ⟨sz,rs,b,rfl,by simp⟩
        ·rw[zad _ _ hk];exact hg k
      | map es=>simpa[freezes,hx]using ih g hg
      | loop _ _ _ _=>simpa[freezes,hx]using ih g hg
      | raw _=>simpa[freezes,hx]using ih g hg
      | dead=>simpa[freezes,hx]using ih g hg
 exact key l h (.refl h)
theorem zyy {G:Nat->List T} {p:Nat} {s:St} {op:AOp} {e:Eff} (h:zaj G p s op=some e) (hn:op.noH=true):e.hp=[]:=by
 cases op
 all_goals(try(simp[AOp.noH]at hn;done))
 all_goals simp only[zaj,zC,zB,zA,Prod.exists]at h
 all_goals(try(repeat(first | (obtain⟨_,_,h⟩:=h) | split at h | (simp only[zB,zA]at h))))
 all_goals(try(repeat(first | (obtain⟨_,_,h⟩:=h) | split at h | (simp only[zB,zA]at h))))
 all_goals(try(repeat(first | (obtain⟨_,_,h⟩:=h) | split at h | (simp only[zB]at h))))
 all_goals(try(repeat(first | (obtain⟨_,_,h⟩:=h) | split at h | (simp only[zB]at h))))
 all_goals(try(simp at h;done))
 all_goals(try(obtain⟨_,_,rfl⟩:=h))
 all_goals(try subst h)
 all_goals rfl
def zzd:Task->Out->Prop
 | .code c s,.code _ s'=>c.noH=true->zdI s.heap s'.heap
 | .loop c s,.code _ s'=>c.noH=true->zdI s.heap s'.heap
 | .ops _ _ l s,.ops s'=>(l.all fun o=>o.op.noH)=true->zdI s.heap s'.heap
 | _,_=>True
theorem zqY {Γ:Nat->Option F} {G:Nat->List T} {t:Task} {o:Out} (h:Big Γ G t o):zzd t o:=by
 induction h with
 | skip=>intro _;exact .refl _
 | ret=>intro _;exact .refl _
 | exit=>intro _;exact .refl _
 | region h ih=>intro hw;exact ih hw
 | regionD h _ ih=>intro hw;exact ih hw
 | seqN h1 h2 ih1 ih2=>
   intro hw;simp only[C.noH,zF]at hw
   exact(ih1 hw.1).trans (ih2 hw.2)
 | seqX h1 he ih1=>
   intro hw;simp only[C.noH,zF]at hw
   exact ih1 hw.1
 | cond hc h ih=>
   rename_i t;intro hw;simp only[C.noH,zF]at hw
   cases t with
   | true=>exact ih hw.1
   | false=>exact ih hw.2
 | block h ih=>intro hw;exact ih hw
 | loop h ih=>intro hw;exact ih hw
 | loopN h1 h2 ih1 ih2=>intro hw;exact(ih1 hw).trans (ih2 hw)
 | loopX h1 he ih1=>intro hw;exact ih1 hw
 | opsNil=>intro _;exact .refl _
 | opsSkip hw hf h ih=>
   intro Aj;simp only[List.all_cons,zF]at Aj
   exact ih Aj.2
 | opsEff hw hf he h ih=>
   intro Aj;simp only[List.all_cons,zF]at Aj;have:=ih Aj.2;simp only[St.apply,zyy he Aj.1,zbf]at this
   exact this
 | opsPure hw hf ho As Ax hg Ec Au AD hc hd h ihc ih=>
   rename_i d p s s' o l f args fv g a b vs rs fn r;intro Aj;simp only[List.all_cons,zF]at Aj;have h2:=ih Aj.2;simp only[St.apply]at h2;refine zdI.trans ?_ h2;split
   ·exact .refl _
   ·exact zj3 _ _
 | opsRaw hw hf ho As Ax Bu hg Ec Au hc h ihc ih=>
   intro Aj;simp only[List.all_cons,zF]at Aj;rw[ho]at Aj
   simp[AOp.noH]at Aj
 | opsFresh hw hf ho As Ax hg Ec Au AD hd hc he h ihc ih=>
   intro Aj;simp only[List.all_cons,zF]at Aj;rw[ho]at Aj
   simp[AOp.noH]at Aj
 | rangeF=>intro hw;simp[C.noH]at hw
 | opsYield hw hf ho As AB Au Ac Bi AT CL AF h iha ihb ih=>
   intro Aj;simp only[List.all_cons,zF]at Aj;rw[ho]at Aj
   simp[AOp.noH]at Aj
 | pcall=>trivial
 | rcall=>trivial
 | rpure=>trivial
 | rext=>trivial
 | pext=>trivial
theorem zdI.none {h':Nat->Option O} (h:zdI (fun _=>Option.none) h'):h'=fun _=>Option.none:=by
 funext k;exact(h k).1 rfl
def ovr (W:List Nat) (f g:Nat->Slot):Nat->Slot:=fun t=>{ v:=if W.contains t then(f t).v else(g t).v,box:=if W.contains t then(f t).box else(g t).box,ad:=(f t).ad }
theorem zBu (W:List Nat) (f g:Nat->Slot) (t:Nat):(ovr W f g t).v=if W.contains t then(f t).v else(g t).v:=rfl
theorem zwH (W:List Nat) (f g:Nat->Slot) (t:Nat):(ovr W f g t).box=if W.contains t then(f t).box else(g t).box:=rfl
theorem zys {W:List Nat} {m m':M} (h:zcE W m.st m'.st):m'=⟨ovr W m'.sl m.sl,m'.used,m'.heap,m'.nxt,m'.bas⟩:=by
 have:m'.sl=ovr W m'.sl m.sl:=by
  funext t
  cases hc:W.contains t with
  | true=>simp only[ovr,hc,if_true]
  | false=>
    obtain⟨h1,h2⟩:=h t hc;have HF:(m'.sl t).v=(m.sl t).v:=h1;have EY:(m'.sl t).box=(m.sl t).box:=h2;simp only[ovr,hc,zG,if_false,<- HF,<- EY]
 rw[<- this]
section
variable {Γ:Nat->Option F} {G:Nat->List T}
theorem zv8 {b:C} {m:M} {Q:Ex->M->Prop} (W:List Nat) (hW:b.wrIn W=true) (Inv:Nat->(Nat->Slot)->(Nat->Option O)->Nat->Prop) (n:Nat)
 (h0:Inv n m.sl m.heap m.nxt)
 (h: ∀n f u h k bs,Inv n f h k->Rg.W Γ G b ⟨ovr W f m.sl,u,h,k,bs⟩ (zf8 (fun m'=> ∃n',n'<n/\Inv n' m'.sl m'.heap m'.nxt) Q)):WL Γ G b m Q:=by
 have key: ∀(n:Nat) (m':M),zcE W m.st m'.st->Inv n m'.sl m'.heap m'.nxt->WL Γ G b m' Q:=by
  intro n
  induction n using Nat.strongRecOn with
  | _ n ih=>
    intro m' hs hi;refine ztt ?_;have h1:=h n m'.sl m'.used m'.heap m'.nxt m'.bas hi;rw[<- zys hs]at h1;obtain⟨e,m1,hB,hQ⟩:=h1;refine⟨e,m1,hB,?_⟩
    cases e with
    | normal=>
      obtain⟨k,hk,AK⟩:=hQ
      exact ih k hk m1 (hs.trans (ztf hB hW)) AK
    | exit id=>exact hQ
    | ret=>exact hQ
 exact key n m (.refl _ _) h0
theorem zxo {b:C} {sl:Nat->Slot} {us:Nat->Bool} {nx ba:Nat} {Q:Ex->M->Prop} (W:List Nat) (hW:b.wrIn W=true) (hH:b.noH=true) (Inv:Nat->(Nat->Slot)->Prop) (n:Nat)
 (h0:Inv n sl)
 (h: ∀n f u k bs,Inv n f->Rg.W Γ G b ⟨ovr W f sl,u,fun _=>none,k,bs⟩ (zf8 (fun m'=> ∃n',n'<n/\Inv n' m'.sl) Q)):WL Γ G b ⟨sl,us,fun _=>none,nx,ba⟩ Q:=by
 refine zv8 W hW (fun n f hp _=>Inv n f/\hp=fun _=>none) n ⟨h0,rfl⟩ ?_;rintro n f u hp k bs ⟨hi,rfl⟩;obtain⟨e,m1,hB,hQ⟩:=h n f u k bs hi;refine⟨e,m1,hB,?_⟩;have hf:=zdI.none (zqY hB hH)
 cases e with
 | normal=>obtain⟨k,hk,AK⟩:=hQ;exact⟨k,hk,AK,hf⟩
 | exit id=>exact hQ
 | ret=>exact hQ
end
end Rg
end
section
namespace Rg
open Go
abbrev ci (n:Int):Opd:=.c (.t (.int .i64 n))
abbrev cb (b:Bool):Opd:=.c (.t (.bool b))
abbrev cf (f:Nat):Opd:=.c (.t (.fn f [] []))
abbrev o (d:Nat) (x:AOp):ROp:=⟨none,some d,x⟩
abbrev on (x:AOp):ROp:=⟨none,none,x⟩
abbrev og (g:Nat) (b:Bool) (d:Nat) (x:AOp):ROp:=⟨some (g,b),some d,x⟩
abbrev vi (n:Int):V:=.t (.int .i64 n)
abbrev vb (b:Bool):V:=.t (.bool b)
def bs (l:List UInt8):ByteArray:=⟨l.toArray⟩
abbrev oM (d x:Nat):ROp:=⟨none,some d,.mv (.s x)⟩
abbrev oI (d:Nat) (n:Int):ROp:=⟨none,some d,.mv (ci n)⟩
abbrev oB (d:Nat) (b:Bool):ROp:=⟨none,some d,.mv (cb b)⟩
abbrev oF (d k x:Nat):ROp:=⟨none,some d,.faddrL k (.s x)⟩
abbrev oG (d k x:Nat):ROp:=⟨none,some d,.faddr k (.s x)⟩
abbrev oL (d x:Nat):ROp:=⟨none,some d,.loadL false 1 (.s x)⟩
abbrev oK (d k x:Nat):ROp:=⟨none,some d,.loadL true k (.s x)⟩
abbrev oR (d x:Nat):ROp:=⟨none,some d,.load false 1 (.s x)⟩
abbrev oS (d k x:Nat):ROp:=⟨none,some d,.load true k (.s x)⟩
abbrev oA (d k x y:Nat):ROp:=⟨none,some d,.iaddrS k (.s x) (.s y)⟩
abbrev oN (d x:Nat):ROp:=⟨none,some d,.len (.s x)⟩
abbrev oT (d x:Nat):ROp:=⟨none,some d,.un .not (.s x)⟩
abbrev oX (d x k:Nat):ROp:=⟨none,some d,.extr (.s x) k⟩
abbrev oQ (d k x:Nat):ROp:=⟨none,some d,.boxL k (.s x)⟩
abbrev oV (d x y:Nat):ROp:=⟨none,some d,.pick (.s x) (cb true) (.s y)⟩
abbrev oW (d x y:Nat):ROp:=⟨none,some d,.pick (.s x) (.s y) (cb false)⟩
abbrev oC (d:Nat) (b:BinOp) (x y:Nat):ROp:=⟨none,some d,.bin b (.s x) (.s y)⟩
abbrev oD (d:Nat) (b:BinOp) (x:Nat) (n:Int):ROp:=⟨none,some d,.bin b (.s x) (ci n)⟩
abbrev oP (k x y:Nat):ROp:=⟨none,none,.storeL k (.s x) (.s y)⟩
abbrev oO (k x y:Nat):ROp:=⟨none,none,.store k (.s x) (.s y)⟩
abbrev gM (g:Nat) (b:Bool) (d x:Nat):ROp:=⟨some (g,b),some d,.mv (.s x)⟩
abbrev gF (g:Nat) (b:Bool) (d k x:Nat):ROp:=⟨some (g,b),some d,.faddrL k (.s x)⟩
abbrev gG (g:Nat) (b:Bool) (d k x:Nat):ROp:=⟨some (g,b),some d,.faddr k (.s x)⟩
abbrev gL (g:Nat) (b:Bool) (d x:Nat):ROp:=⟨some (g,b),some d,.loadL false 1 (.s x)⟩
abbrev gK (g:Nat) (b:Bool) (d k x:Nat):ROp:=⟨some (g,b),some d,.loadL true k (.s x)⟩
abbrev gR (g:Nat) (b:Bool) (d x:Nat):ROp:=⟨some (g,b),some d,.load false 1 (.s x)⟩
abbrev gN (g:Nat) (b:Bool) (d x:Nat):ROp:=⟨some (g,b),some d,.len (.s x)⟩
abbrev gT (g:Nat) (b:Bool) (d x:Nat):ROp:=⟨some (g,b),some d,.un .not (.s x)⟩
abbrev gI (g:Nat) (b:Bool) (d k x y:Nat):ROp:=⟨some (g,b),some d,.iaddrS k (.s x) (.s y)⟩
abbrev gC (g:Nat) (b:Bool) (d:Nat) (q:BinOp) (x y:Nat):ROp:=⟨some (g,b),some d,.bin q (.s x) (.s y)⟩
abbrev gD (g:Nat) (b:Bool) (d:Nat) (q:BinOp) (x:Nat) (n:Int):ROp:=⟨some (g,b),some d,.bin q (.s x) (ci n)⟩
abbrev rF (l:List ROp):C:=.region false l
abbrev rT (l:List ROp):C:=.region true l
abbrev zi:V:=.t (.int .i64 0)
abbrev zn:V:=.t .nils
abbrev zb:V:=.t (.bool false)
abbrev ze:V:=.t (.str (bs []))
theorem zaH {n:Int} (h: -9223372036854775808<=n/\n<=9223372036854775807):IntKind.i64.wrap n=n:=by
 rw[IntKind.wrap_i64];omega
def zvN:Slot:=⟨.undef,none,none⟩
def slots:List V->Nat->Nat->Slot
 | [],_=>fun _=>zvN
 | v::l,i=>upd (slots l (i+1)) i ⟨v,none,none⟩
theorem zkj: ∀(l:List V) (i t:Nat),slots l i (i+t)=⟨l.getD t .undef,none,none⟩
 | [],i,t=>by simp[slots,zvN]
 | v::l,i,0=>by simp[slots]
 | v::l,i,t+1=>by
   simp only[slots];rw[zad _ _ (by omega),show i+(t+1)=i+1+t by omega,zkj l (i+1) t];simp
theorem zsv (args:List V) (h:Nat->Option O) (n:Nat):M.init args h n=⟨slots args 0,fun _=>false,h,n,n⟩:=by
 simp only[M.init,zfz,M.mk.injEq,and_true]
 funext t
 have:=zkj args 0 t;simpa using this.symm
section
variable (Γ:Nat->Option F) (G:Nat->List T)
def wpC:C->M->(Ex->M->Prop)->Prop
 | .skip,m,Q=>Q .normal m
 | .ret,m,Q=>Q .ret m
 | .exit id,m,Q=>Q (.exit id) m
 | .region d l,m,Q=>wpO Γ G d 0 l (m.begin l.length) (Q .normal)
 | .regionD ck l,m,Q=>wpO Γ G true 0 l (m.begin l.length) (fun m'=>zgO G m'.st l ck=true/\Q .normal m')
 | .seq a b,m,Q=>wpC a m (zf8 (fun m'=>wpC b m' Q) Q)
 | .cond c a b,m,Q=>match zd5 G m.st c with
   | none=>False
   | some t=>if t=true then wpC a m Q else wpC b m Q
 | .block id b,m,Q=>wpC b m (zjI id Q)
 | .loop b,m,Q=>WL Γ G b m Q
 | .ext _,_,_=>False
 | .round _ _,_,_=>False
 | .rangeF x ps bd,m,Q=>match(evl G m.st x).bind zfC with
   | none=>False
   | some (g,a,b)=> ∃r h' n',RC Γ G g (a++[.yl m.nxt]++b) (upd m.heap m.nxt (some (.loop (fun t=>(m.sl t).v) ps bd .ready))) (m.nxt+1) r h' n'/\(∃fn,Γ g=some fn/\True)/\
     ∃env' ps' bd' st e,h' m.nxt=some (.loop env' ps' bd' st)/\st.ends=some e/\Q e { m with heap:=upd h' m.nxt (some .dead),nxt:=n' }
def Fin (rs:List Res) (r:V) (e:Ex) (m:M):Prop:=(∀id,e≠ .exit id)/\ ∃v,zeM m.st rs=some v/\reify m.heap v=some r
end
section
variable {Γ:Nat->Option F} {G:Nat->List T}
theorem zhm {K K':M->Prop} {Q:Ex->M->Prop} (h: ∀m,K m->K' m): ∀e m,zf8 K Q e m->zf8 K' Q e m
 | .normal,m,hk=>h m hk
 | .exit _,_,hk=>hk
 | .ret,_,hk=>hk
theorem zq7: ∀{c:C} {m:M} {Q:Ex->M->Prop},wpC Γ G c m Q->W Γ G c m Q
 | .skip,m,Q,h=>zy8 h
 | .ret,m,Q,h=>zBX h
 | .exit id,m,Q,h=>zza h
 | .region d l,m,Q,h=>zvx h
 | .regionD ck l,m,Q,h=>ztr h
 | .seq a b,m,Q,h=>zBW (zts (zq7 h) (zhm fun _ h=>zq7 h))
 | .cond c a b,m,Q,h=>by
   simp only[wpC]at h;split at h
   ·exact h.elim
   ·rename_i t ht;refine zzb ht (fun h1=> ?_) (fun h1=> ?_)
    ·subst h1;exact zq7 (by simpa using h)
    ·subst h1;exact zq7 (by simpa using h)
 | .block id b,m,Q,h=>zxn (zq7 h)
 | .loop b,m,Q,h=>zy9 h
 | .ext _,_,_,h=>h.elim
 | .round _ _,_,_,h=>h.elim
 | .rangeF x ps bd,m,Q,h=>by
   simp only[wpC]at h;split at h
   ·exact h.elim
   ·rename_i g a b Ax;simp only[zB]at Ax;obtain⟨fv,As,Ax⟩:=Ax;obtain⟨r,h',n',hc,hg,env',ps',bd',st,e,hl,he,hQ⟩:=h;exact zxm As Ax hg hc hl he hQ
theorem zzc {g:Nat} {args:List V} {fn:F} {r:V} (hg:Γ g=some fn) (hr:fn.raw=false)
 (h:wpC Γ G fn.body ⟨slots args 0,fun _=>false,fun _=>none,0,0⟩ (Fin fn.results r)):PC Γ G g args r:=by
 refine zBZ hg hr ?_;rw[zsv];exact zq7 h
structure Wit (A B:Prop)where
 n:Nat
def zfJ (b:Bool) (A B:Prop) (_:Wit A B):Prop:=if b=true then A else B
@[go_sem]theorem zBQ (A B:Prop) (w:Wit A B):zfJ true A B w=A:=by simp[zfJ]
@[go_sem]theorem zBR (A B:Prop) (w:Wit A B):zfJ false A B w=B:=by simp[zfJ]
def zqN (v:V) (A B:Prop) (w:Wit A B):Prop:=match v with
 | .t (.bool b)=>zfJ b A B w
 | _=>False
@[go_sem]theorem zBP (b:Bool) (A B:Prop) (w:Wit A B):zqN (.t (.bool b)) A B w=zfJ b A B w:=rfl
def zgj (v:V) (g:Bool) (A B:Prop) (w:Wit A B):Prop:=match v with
 | .t (.bool b)=>if g=true then zfJ b A B w else zfJ b B A ⟨0⟩
 | .undef=>B
 | _=>False
@[go_sem]theorem zzN (b:Bool) (A B:Prop) (w:Wit A B):zgj (.t (.bool b)) true A B w=zfJ b A B w:=by simp[zgj]
@[go_sem]theorem zzO (b:Bool) (A B:Prop) (w:Wit A B):zgj (.t (.bool b)) false A B w=zfJ b B A ⟨0⟩:=by simp[zgj]
structure Wit1 (A:Prop)where
 n:Nat
def SpN (P:Prop) (_:Wit1 P):Prop:=P
@[go_sem]theorem zyl (sl:Nat->Slot) (u:Nat->Bool) (h:Nat->Option O) (n b t:Nat) (x y:C) (Q:Ex->M->Prop):
 wpC Γ G (.cond (.s t) x y) ⟨sl,u,h,n,b⟩ Q=zqN (sl t).v (wpC Γ G x ⟨sl,u,h,n,b⟩ Q) (wpC Γ G y ⟨sl,u,h,n,b⟩ Q) ⟨0⟩:=by
 simp only[wpC,zd5,evl,M.st,zqN,zfJ];cases hv:(sl t).v<;>simp only[]
 rename_i x;cases x<;>simp only[]
@[go_sem]theorem zyk (rs:List Res) (r:V) (sl:Nat->Slot) (u:Nat->Bool) (h:Nat->Option O) (n b:Nat):
 Fin rs r .ret ⟨sl,u,h,n,b⟩= ∃v,zeM (M.st ⟨sl,u,h,n,b⟩) rs=some v/\reify h v=some r:=by simp[Fin]
attribute [go_sem] M.free zbf ziE evl zgE zex zd5 zd8 zfC rd zb9 wr zvs mxT unT lenOf zdw V.cells V.scalar V.scalar1 V.scalar2 T.scalar zeM zer reify toT1 toT T.norm zg6 zbh zbY zew V.isCell V.one
attribute [go_sem] zaj
@[go_sem]theorem zbs (d:Bool) (p:Nat) (dst:Option Nat) (op:AOp) (l:List ROp) (sl:Nat->Slot) (u:Nat->Bool) (h:Nat->Option O) (n b:Nat) (Q:M->Prop):
 wpO Γ G d p (⟨none,dst,op⟩::l) ⟨sl,u,h,n,b⟩ Q=ziE Γ G d p ⟨sl,u,h,n,b⟩ dst op (fun m'=>wpO Γ G d (p+1) l m' Q):=by
 simp only[wpO,zcs,if_true]
@[go_sem]theorem znU (d:Bool) (p g:Nat) (w:Bool) (dst:Option Nat) (op:AOp) (l:List ROp) (sl:Nat->Slot) (u:Nat->Bool) (h:Nat->Option O) (n b:Nat) (Q:M->Prop):
 wpO Γ G d p (⟨some (g,w),dst,op⟩::l) ⟨sl,u,h,n,b⟩ Q=zgj (sl g).v w (ziE Γ G d p ⟨sl,u,h,n,b⟩ dst op (fun m'=>wpO Γ G d (p+1) l m' Q))
  (M.free ⟨sl,u,h,n,b⟩ dst {}=true/\wpO Γ G d (p+1) l (M.apply ⟨sl,u,h,n,b⟩ dst {}) Q) ⟨0⟩:=by
 simp only[wpO,zcs,M.st,zgj,zfJ]
 cases hv:(sl g).v with
 | t x=>
   cases x with
   | bool b=>cases b<;>cases w<;>simp
   | _=>rfl
 | undef=>simp
 | _=>rfl
attribute [go_sem] slots List.map_cons List.map_nil Int.toNat_natCast Int.natCast_nonneg zJ Option.map_some Option.map_none List.length_map decide_eq_true_eq Int.ofNat_lt
attribute [go_sem] Bool.not_false Bool.true_and Bool.and_true Bool.not_true zG if_true if_false true_and and_true zC zD Option.bind_none zA reduceIte reduceCtorEq
attribute [go_sem] List.length_cons List.length_nil List.mapM_cons List.mapM_nil Option.pure_def List.getElem?_cons_zero List.getElem?_cons_succ List.drop_zero List.drop_succ_cons List.take_succ_cons List.take_zero List.cons_append List.nil_append List.append_nil
end
end Rg
end
section
namespace Rg
open Go
structure DS where
 n:Nat
 c:Nat
 v:Nat
 g:Nat
 b:Bool
abbrev D:=StateM DS
section
variable {α:Type} (K:Nat->V)
def nx (r:Nat):D Nat:=fun s=>(s.n % r,{ s with n:=s.n/ r })
def nn:D Nat:=do
 match <- nx 16 with
 | 12=>nx 64
 | 13=>nx 1024
 | 14=>nx 1048576
 | 15=>nx 18446744073709551616
 | k=>pure k
def bb:D Bool:=do pure ((<- nx 2)==1)
def zz:D Int:=do
 let k<- nn
 pure (if k % 2=0 then Int.ofNat (k/ 2)else Int.negSucc (k/ 2))
def rp (x:D α):Nat->D (List α)
 | 0=>pure []
 | k+1=>do
   let a<- x
   let l<- rp x k
   pure (a::l)
def ls (x:D α):D (List α):=do rp x (<- nn)
def kv:D V:=do pure (K (<- nn))
def od:D Opd:=do
 let s<- get
 let k<- nx (s.v+11)
 if k<s.v then pure (.s k)else match k-s.v with
 | 0=>pure (.s s.c)
 | 1=>pure (.s (s.c-1))
 | 2=>pure (.s (s.c-2))
 | 3=>pure (.s (s.c-3))
 | 4=>do pure (.s (<- nx 1024))
 | 5=>do pure (ci (<- zz))
 | 6=>do pure (cb (<- bb))
 | 7=>do pure (.c (<- kv K))
 | 8=>do pure (cf (<- nx 1024))
 | 9=>do pure (.g (<- nn))
 | _=>do pure (.m (<- ls (do pure (<- nn,<- nn))) (<- nx 1024))
def oo:D (Option Opd):=do if(<- bb)then pure (some (<- od K))else pure none
def dt:Nat->D (Option Nat)
 | 0=>pure none
 | 1=>fun s=>(some (s.c+1),{ s with c:=s.c+1 })
 | _=>do
   let k<- nx ((<- get).v+1)
   if k<(<- get).v then pure (some k)else do
    let k<- nx 1024
    modify fun s=>{ s with c:=k }
    pure (some k)
def gd:Nat->D (Option (Nat×Bool))
 | 0=>pure none
 | 1=>do
   let s<- get
   pure (some (s.g,s.b))
 | 2=>do
   modify fun s=>{ s with g:=s.c,b:=false }
   pure (some ((<- get).g,false))
 | 3=>do
   modify fun s=>{ s with g:=s.c,b:=true }
   pure (some ((<- get).g,true))
 | _=>do
   let k<- nx 1024
   let b<- bb
   modify fun s=>{ s with g:=k,b:=b }
   pure (some (k,b))
def bop:D BinOp:=do pure ([BinOp.add,.eql,.lss,.neq,.gtr,.geq,.leq,.sub,.mul,.quo,.rem,.and,.or,.xor,.shl,.shr,.andNot].getD (<- nx 17) .add)
def aop:Nat->D AOp
 | 0=>do pure (.mv (<- od K))
 | 1=>do pure (.pick (<- od K) (<- od K) (<- od K))
 | 2=>do pure (.allocL (<- ls (kv K)))
 | 3=>do pure (.allocH (<- ls (kv K)))
 | 4=>pure .allocB
 | 5=>do pure (.boxL (<- nn) (<- od K))
 | 6=>do pure (.boxH (<- nn) (<- od K))
 | 7=>do pure (.build (<- ls (kv K)) (<- ls (do pure (<- nn,<- nn,<- od K))))
 | 8=>do pure (.bslice (<- nn) (<- nn) (<- ls (kv K)) (<- ls (do pure (<- nn,<- od K))))
 | 9=>do pure (.loadL (<- bb) (<- nn) (<- od K))
 | 10=>do pure (.load (<- bb) (<- nn) (<- od K))
 | 11=>do pure (.storeL (<- nn) (<- od K) (<- od K))
 | 12=>do pure (.store (<- nn) (<- od K) (<- od K))
 | 13=>do pure (.nilchk (<- od K))
 | 14=>do pure (.bin (<- bop) (<- od K) (<- od K))
 | 15=>do pure (.eqb (<- bb) (<- od K) (<- od K))
 | 16=>do pure (.eqa (<- bb) (<- ls nn) (<- od K) (<- od K))
 | 17=>do pure (.mx (<- bb) (<- od K) (<- od K))
 | 18=>do pure (.un ([UnOp.not,.neg,.xor].getD (<- nx 3) .not) (<- od K))
 | 19=>do pure (.conv ([IntKind.i64,.u64,.u8,.i32,.u32].getD (<- nx 5) .i64) (<- od K))
 | 20=>do pure (.mkfn (<- nn) (<- ls (od K)) (<- ls (od K)))
 | 21=>do pure (.mkfnT (<- nn) (<- od K))
 | 22=>do pure (.mkslice (<- nn) (<- nn) (<- ls (kv K)) (<- od K) (<- od K))
 | 23=>do pure (.slice (<- nn) (<- od K) (<- oo K) (<- oo K) (<- oo K))
 | 24=>do pure (.slstr (<- od K) (<- oo K) (<- oo K))
 | 25=>do pure (.faddrL (<- nn) (<- od K))
 | 26=>do pure (.faddr (<- nn) (<- od K))
 | 27=>do pure (.field (<- bb) (<- nn) (<- nn) (<- od K))
 | 28=>do pure (.iaddrS (<- nn) (<- od K) (<- od K))
 | 29=>do pure (.iaddrAL (<- nn) (<- nn) (<- od K) (<- od K))
 | 30=>do pure (.iaddrA (<- nn) (<- nn) (<- od K) (<- od K))
 | 31=>do pure (.idxA (<- bb) (<- nn) (<- nn) (<- od K) (<- od K))
 | 32=>do pure (.idxS (<- od K) (<- od K))
 | 33=>do pure (.bstr (<- od K))
 | 34=>do pure (.extr (<- od K) (<- nn))
 | 35=>do pure (.len (<- od K))
 | 36=>do pure (.slen (<- od K))
 | 37=>do pure (.lenA (<- nn))
 | 38=>do pure (.append (<- nn) (<- nn) (<- od K) (<- od K))
 | 39=>do pure (.copy (<- nn) (<- od K) (<- od K))
 | 40=>do pure (.clear (<- nn) (<- ls (kv K)) (<- od K))
 | 41=>pure .mkmap
 | 42=>do pure (.lookup (<- nn) (<- kv K) (<- bb) (<- od K) (<- od K))
 | 43=>do pure (.mapupd (<- nn) (<- od K) (<- od K) (<- od K))
 | 44=>do pure (.call (<- bb) (<- od K) (<- ls (od K)))
 | 45=>do pure (.fcall (<- od K) (<- ls (od K)))
 | 46=>do pure (.loadL false 1 (<- od K))
 | 47=>do pure (.load false 1 (<- od K))
 | 48=>do pure (.pick (<- od K) (cb true) (<- od K))
 | 49=>do pure (.pick (<- od K) (<- od K) (cb false))
 | 50=>do pure (.call false (cf (<- nx 1024)) (<- ls (od K)))
 | 51=>do
   let s<- get
   pure (.mv (.s s.c))
 | 52=>do
   let s<- get
   pure (.loadL false 1 (.s s.c))
 | 54=>do pure (.capN (<- od K))
 | 55=>pure .stop
 | 56=>do pure (.appz (<- nn) (<- nn) (<- ls (kv K)) (<- od K) (<- od K))
 | 57=>do pure (.mkif (<- nn) (<- od K))
 | 59=>do
   match <- nx 8 with
   | 0=>pure (.boxA (<- nn) (<- od K))
   | 1=>pure (.allocA (<- ls (kv K)))
   | 2=>pure (.storeA (<- nn) (<- od K) (<- od K))
   | 3=>pure (.slicA (<- nn) (<- od K) (<- oo K) (<- oo K))
   | _=>do pure (.lit (<- nn) (<- nn) (<- ls (kv K)) (<- ls (do pure (<- nn,<- od K))))
 | 58=>do pure (.tassert (<- nn) (<- kv K) (<- bb) (<- od K))
 | _=>do
   let s<- get
   pure (.un .not (.s s.c))
def rop:D ROp:=do
 let k<- nx 64
 let k<- if k=63 then nx 1024 else pure ([60,120,171,74,112,85,111,254,292,110,88,107,145,11,95,108,109,86,240,70,122,445,113,287,69,265,266,134,129,290,125,275,268,68,67,625,293,73,98,104,600,94,65,420,170,12,146,291,154,155,126,166,167,429,253,609,80,89,828,249,829,130,123].getD k 0)
 let g<- gd (k/ 180)
 let a<- aop K (k % 60)
 let d<- dt (k/ 60 % 3)
 pure ⟨g,d,a⟩
def zyf:D (List ROp):=ls (rop K)
def cod:Nat->D C
 | 0=>pure .skip
 | f+1=>do
   match <- nx 16 with
   | 0=>do pure (.seq (<- cod f) (<- cod f))
   | 1=>do pure (.region false (<- zyf K))
   | 2=>do pure (.cond (<- od K) (<- cod f) (<- cod f))
   | 3=>do pure (.block (<- nn) (<- cod f))
   | 4=>do pure (.loop (<- cod f))
   | 5=>do pure (.exit (<- nn))
   | 6=>pure .ret
   | 7=>pure .skip
   | 8=>do pure (.region true (<- zyf K))
   | 9=>do pure (.regionD (<- ls (do pure (<- nn,<- nn))) (<- zyf K))
   | 10=>do pure (.rangeF (<- od K) (<- ls nn) (<- cod f))
   | 11=>do pure (.round (<- cod f) (<- cod f))
   | 12=>do pure (.seq (.region false (<- zyf K)) (<- cod f))
   | 13=>do
     let s<- get
     pure (.cond (.s s.c) .skip (.exit (<- nn)))
   | 14=>do pure (.seq (.seq (.region false (<- zyf K)) (<- cod f)) (<- cod f))
   | _=>do
     let s<- get
     pure (.cond (.s s.c) (<- cod f) .skip)
def rs:D Res:=do
 match <- nx 3 with
 | 0=>do pure (.s (<- nn))
 | 1=>do pure (.l (<- nn) (<- bb) (<- nn))
 | _=>do pure (.h (<- nn) (<- bb) (<- nn))
def zC9:D F:=do
 let v<- nn
 modify fun s=>{ s with v:=v }
 pure ⟨<- nn,<- bb,<- ls rs,<- cod K 1000⟩
def cde:D C:=do
 let v<- nn
 modify fun s=>{ s with v:=v }
 cod K 1000
end
def dF (K:Nat->V) (n:Nat):F:=(zC9 K ⟨n,0,0,0,false⟩).1
def dC (K:Nat->V) (n:Nat):C:=(cde K ⟨n,0,0,0,false⟩).1
end Rg
end
section
namespace Rg
open Go
abbrev KS (K:Nat->V):Prop:=True/\K 0=(.t .nils)/\K 1=(.t .nilm)/\K 2=(.t .nilf)/\K 3=(.t (.str (bs [])))/\K 4=(.t (.int .i64 0))/\K 5=(.t (.bool false))/\K 6=(.t (.str (bs [109,111,100,117,108,101])))/\K 7=(.t (.str (bs [105,110])))/\K 8=(.t (.str (bs [112,114,111,99])))/\K 9=(.t (.str (bs [116,104,114,101,97,100])))/\K 10=(.t (.str (bs [116])))/\K 11=(.t (.str (bs [78,46,112])))/\K 12=(.t (.str (bs [77])))/\K 13=(.t (.str (bs [78])))/\K 14=(.t (.str (bs [113])))/\K 15=(.t (.str (bs [107])))/\K 16=(.t (.str (bs [78,46,118,46,98])))/\K 17=(.t (.str (bs [108])))/\K 18=(.t (.str (bs [112])))/\K 19=(.t (.str (bs [77,46,112])))/\K 20=(.t (.str (bs [118,46,98])))/\K 21=(.t (.str (bs [32])))/\K 22=(.t (.str (bs [97])))/\K 23=(.t (.str (bs [98])))/\K 24=(.t (.str (bs [114])))/\K 25=(.t (.str (bs [118])))/\K 26=(.t (.str (bs [120])))/\K 27=(.t (.str (bs [65,110,110])))/\K 28=(.t (.str (bs [46])))/\K 29=(.agg [(.t (.int .i64 0)),(.t (.str (bs []))),(.t (.str (bs []))),(.t (.int .i64 0)),(.t (.int .i64 0)),(.t (.int .i64 0)),(.t (.bool false)),(.t .nils),(.t (.int .i64 0))])/\K 30=(.fn 621 [] [])/\K 31=(.fn 622 [] [])/\K 32=(.t .nili)/\K 33=(.t .nilp)
inductive Is {α:Type}:α->α->Prop
 | r (a:α):Is a a
abbrev EF (n:Nat):=(c:F)->(h: ∀K,KS K->Is (dF K n) c:=by intro K h;cbv;(try simp only[h,Int.reduceOfNat,Int.reduceNegSucc]);exact .r _)->F
abbrev EC (n:Nat):=(c:C)->(h: ∀K,KS K->Is (dC K n) c:=by intro K h;cbv;(try simp only[h,Int.reduceOfNat,Int.reduceNegSucc]);exact .r _)->C
end Rg
end
