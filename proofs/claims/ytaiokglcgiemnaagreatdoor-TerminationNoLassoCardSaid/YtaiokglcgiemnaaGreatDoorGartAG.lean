/- Part of the proof of laws of relyguardlaw36. No condition. -/
import Derived.Scope
import Derived.Test.YtaiokglcgiemnaaGreatDoorGartAF
import Derived.Laws.BitsLemmas
import Derived.Attr
set_option linter.unusedSimpArgs false
set_option linter.unusedVariables false
set_option linter.defProp false
section
namespace Rg
open Go
section
variable {F:Fence} {n:Nat} {P:Program} {Q:Exit->Act->World->Prop} {b:Frame} {a:Act} {k:List Item} {cs:List Frame} {w:World} {c:Code}
theorem qk:step P (lone (b.atR a (.code (.scope c)::k)) cs w)= .next (lone (b.atR a (.code c:: .inScope c::k)) cs w):=
 step_lone_go (by simp[stepG,stepG.exec,Frame.atR])
theorem XB:step P (lone (b.atR a (.inScope c::k)) cs w)= .next (lone (b.atR a k) cs w):=
 step_lone_go (by simp[stepG,stepG.exec,Frame.atR])
theorem Ye (h:c.wpIn F n P (Exit.noGoto Q) a w):(Code.scope c).wpIn F n P Q a w:=by
 intro b k cs r m p;have f:(lone (b.atR a (.code (.scope c)::k)) cs w).fenced P F:=fenced_calm m p rfl;obtain⟨e,i,j,g,d⟩:=h b (.inScope c::k) cs r m p
 cases e with
 | normal=>exact⟨.normal,i,j,g,.head f qk (StepsIn.trans d (.one (fenced_calm m p rfl) XB))⟩
 | exit id=>
   have q:exitTo id (.inScope c::k)=exitTo id k:=by simp[exitTo]
   exact⟨.exit id,i,j,g,fun t o=> .head f qk (d.1 t (by rw[q];exact o)),
    fun s o=>let⟨k₁,h1,h2⟩:=d.2 s (by rw[q];exact o);⟨k₁,h1,.head f qk h2⟩⟩
 | goto l=>exact g.elim
 | ret=>exact⟨_,i,j,g,.of_steps (.one f qk) d⟩
 | panic u=>exact⟨_,i,j,g,.of_steps (.one f qk) d⟩
 | outgrown=>exact⟨_,i,j,g,.of_steps (.one f qk) d⟩
end
def C.noRange:C->Bool
 | .seq a b=>a.noRange&&b.noRange
 | .cond _ a b=>a.noRange&&b.noRange
 | .block _ b=>b.noRange
 | .loop b=>b.noRange
 | .rangeF _ _ _=>false
 | .round a b=>a.noRange&&b.noRange
 | _=>true
def jE (ns:Nat) (sk:Option C) (x:Option Opd) (b:Option C) (ps:Array Nat):Option C:=
 match sk,x,b with
 | some a,some x,some b=>if a.noRange&&b.noRange&&ps.toList.all (fun t=>decide (t<ns))then some (.rangeF x ps.toList (.round a b))else none
 | _,_,_=>none
section
variable {ns:Nat} {sk:Option C} {x:Option Opd} {b:Option C} {ps:Array Nat}
theorem kz {y:C} (h:jE ns sk x b ps=some y): ∃f b' d,x=some f/\b=some b'/\y= .rangeF f ps.toList (.round d b')/\sk=some d/\d.noRange=true/\b'.noRange=true/\ ∀t∈ps.toList,t<ns:=by
 unfold jE at h;split at h
 ·rename_i d f b';split at h
  ·rename_i e;simp only[zF,zN,aQ]at e;simp only[zA]at h;exact⟨f,b',d,rfl,rfl,h.symm,rfl,e.1.1,e.1.2,e.2⟩
  ·simp at h
 ·simp at h
@[simp]theorem ztB:(jE ns sk x b ps=some .skip)=False:=aI fun h=>by obtain⟨_,_,_,_,_,h,_⟩:=kz h;cases h
@[simp]theorem zvg:(jE ns sk x b ps=some .ret)=False:=aI fun h=>by obtain⟨_,_,_,_,_,h,_⟩:=kz h;cases h
@[simp]theorem ztD {id:Nat}:(jE ns sk x b ps=some (.exit id))=False:=aI fun h=>by obtain⟨_,_,_,_,_,h,_⟩:=kz h;cases h
@[simp]theorem zvf {u v:C}:(jE ns sk x b ps=some (.seq u v))=False:=aI fun h=>by obtain⟨_,_,_,_,_,h,_⟩:=kz h;cases h
@[simp]theorem ztE {c:Opd} {u v:C}:(jE ns sk x b ps=some (.cond c u v))=False:=aI fun h=>by obtain⟨_,_,_,_,_,h,_⟩:=kz h;cases h
@[simp]theorem zs8 {id:Nat} {u:C}:(jE ns sk x b ps=some (.block id u))=False:=aI fun h=>by obtain⟨_,_,_,_,_,h,_⟩:=kz h;cases h
@[simp]theorem ztC {u:C}:(jE ns sk x b ps=some (.loop u))=False:=aI fun h=>by obtain⟨_,_,_,_,_,h,_⟩:=kz h;cases h
@[simp]theorem zq6 {d:Bool} {l:List ROp}:(jE ns sk x b ps=some (.region d l))=False:=aI fun h=>by obtain⟨_,_,_,_,_,h,_⟩:=kz h;cases h
@[simp]theorem zvh {e:Ext}:(jE ns sk x b ps=some (.ext e))=False:=aI fun h=>by obtain⟨_,_,_,_,_,h,_⟩:=kz h;cases h
end
def jz (ops:Array Oper) (l:List ROp):Option C:=
 if yu ops l then some (.region true l)
 else if oh (y8 ops l) ops l&&qQ (y8 ops l) l then some (.regionD (y8 ops l) l)else none
section
variable {ops:Array Oper} {l:List ROp}
theorem kD {y:C} (h:jz ops l=some y):(y= .region true l/\yu ops l=true)\/ ∃ck,y= .regionD ck l/\oh ck ops l=true/\qQ ck l=true:=by
 unfold jz at h;split at h
 ·rename_i d;simp only[zA]at h;exact .inl ⟨h.symm,d⟩
 ·split at h
  ·rename_i d;simp only[zF]at d;simp only[zA]at h;exact .inr ⟨_,h.symm,d⟩
  ·simp at h
@[simp]theorem zvi:(jz ops l=some .skip)=False:=aI fun h=>by rcases kD h with⟨h,_⟩ | ⟨_,h,_⟩<;>cases h
@[simp]theorem zv2:(jz ops l=some .ret)=False:=aI fun h=>by rcases kD h with⟨h,_⟩ | ⟨_,h,_⟩<;>cases h
@[simp]theorem zvk {id:Nat}:(jz ops l=some (.exit id))=False:=aI fun h=>by rcases kD h with⟨h,_⟩ | ⟨_,h,_⟩<;>cases h
@[simp]theorem zv1 {u v:C}:(jz ops l=some (.seq u v))=False:=aI fun h=>by rcases kD h with⟨h,_⟩ | ⟨_,h,_⟩<;>cases h
@[simp]theorem zvl {c:Opd} {u v:C}:(jz ops l=some (.cond c u v))=False:=aI fun h=>by rcases kD h with⟨h,_⟩ | ⟨_,h,_⟩<;>cases h
@[simp]theorem ztG {id:Nat} {u:C}:(jz ops l=some (.block id u))=False:=aI fun h=>by rcases kD h with⟨h,_⟩ | ⟨_,h,_⟩<;>cases h
@[simp]theorem zvj {u:C}:(jz ops l=some (.loop u))=False:=aI fun h=>by rcases kD h with⟨h,_⟩ | ⟨_,h,_⟩<;>cases h
@[simp]theorem zv3 {e:Ext}:(jz ops l=some (.ext e))=False:=aI fun h=>by rcases kD h with⟨h,_⟩ | ⟨_,h,_⟩<;>cases h
@[simp]theorem ztF {x:Opd} {ps:List Nat} {b:C}:(jz ops l=some (.rangeF x ps b))=False:=aI fun h=>by rcases kD h with⟨h,_⟩ | ⟨_,h,_⟩<;>cases h
end
section
variable (P:Program) (I:Inv)
def bC (rw:Raws) (L:List Nat) (ns:Nat):Code->Option C
 | .skip=>some .skip
 | .region _ ops draw=>do
   let l<- oi P I rw L ns ops [] ops.toList
   if draw then jz ops l else some (.region false l)
 | .seq a b=>do
   let a<- bC rw L ns a
   let b<- bC rw L ns b
   some (.seq a b)
 | .cond c a b=>do
   let c<- opd I c
   let a<- bC rw L ns a
   let b<- bC rw L ns b
   some (.cond c a b)
 | .block id b=>do
   let b<- bC rw L ns b
   some (.block id b)
 | .loop b=>do
   let b<- bC rw L ns b
   some (.loop b)
 | .exit id=>some (.exit id)
 | .ret=>some .ret
 | .rangeFunc g ps a b=>jE ns (bC rw L ns a) (opd I g) (bC rw L ns b) ps
 | .label _=>some .skip
 | .scope b=>do
   let b<- bC rw L ns b
   some (.seq .skip b)
 | _=>none
def y6 (L:List Nat):ResultVar->Option Res
 | .tmp t=>some (.s t)
 | .cell a ty=>do
   let(ag,n)<- typ P ty
   if L.contains a then some (.l a ag n)else some (.h a ag n)
def po (rw:Raws) (L:List Nat) (raw:Bool) (rf:Func):Option F:=do
 let body<- rf.body
 let b<- bC P I rw L rf.ntmps body
 let rs<- rf.results.toList.mapM (y6 P L)
 if (rf.name == "runtime.NumGoroutine") then none else some { nslots := rf.ntmps, raw := raw, results := rs, body := b }
end
section
variable {P:Program} {I:Inv} {rw:Raws} {L:List Nat} {k:Nat} {rc:Code}
theorem xC {e:Ext} (h:bC P I rw L k rc=some (.ext e)):False:=by
 cases rc<;>simp only[bC,zC,zB]at h
 all_goals(first | (cases h;done) | skip)
 ·obtain⟨l,_,h⟩:=h;split at h
  ·simp at h
  ·cases h
 all_goals((try(simp at h;done));(try(obtain⟨_,_,h⟩:=h));(try(obtain⟨_,_,h⟩:=h));(try(obtain⟨_,_,h⟩:=h));(try(simp at h;done)))
theorem kbm (h:bC P I rw L k rc=some .skip):rc= .skip\/ ∃l,rc= .label l:=by
 cases rc<;>simp[bC,zB]at h
 ·exact .inl rfl
 ·obtain⟨l,_,h⟩:=h;split at h
  ·simp at h
  ·simp at h
 ·exact .inr ⟨_,rfl⟩
theorem kbU (h:bC P I rw L k rc=some .ret):rc= .ret:=by
 cases rc<;>simp[bC,zB]at h
 ·obtain⟨l,_,h⟩:=h;split at h
  ·simp at h
  ·simp at h
 ·rfl
theorem kbo {id:Nat} (h:bC P I rw L k rc=some (.exit id)):rc= .exit id:=by
 cases rc<;>simp[bC,zB]at h
 ·obtain⟨l,_,h⟩:=h;split at h
  ·simp at h
  ·simp at h
 ·subst h;rfl
theorem SG {a b:C} (h:bC P I rw L k rc=some (.seq a b)):
 (∃x y,rc= .seq x y/\bC P I rw L k x=some a/\bC P I rw L k y=some b)\/ ∃x,rc= .scope x/\a= .skip/\bC P I rw L k x=some b:=by
 cases rc<;>simp[bC,zB]at h
 ·obtain⟨l,_,h⟩:=h;split at h
  ·simp at h
  ·simp at h
 ·rename_i x y;exact .inl ⟨x,y,rfl,h.1,h.2⟩
 ·rename_i x;exact .inr ⟨x,rfl,h.2.symm,h.1⟩
theorem kbp {c:Opd} {a b:C} (h:bC P I rw L k rc=some (.cond c a b)): ∃d x y,rc= .cond d x y/\opd I d=some c/\bC P I rw L k x=some a/\bC P I rw L k y=some b:=by
 cases rc<;>simp[bC,zB]at h
 ·obtain⟨l,_,h⟩:=h;split at h
  ·simp at h
  ·simp at h
 ·rename_i d x y;obtain⟨j,e,i,f,b',g,rfl,rfl,rfl⟩:=h;exact⟨d,x,y,rfl,e,f,g⟩
theorem Z1 {id:Nat} {b:C} (h:bC P I rw L k rc=some (.block id b)): ∃x,rc= .block id x/\bC P I rw L k x=some b:=by
 cases rc<;>simp[bC,zB]at h
 ·obtain⟨l,_,h⟩:=h;split at h
  ·simp at h
  ·simp at h
 ·rename_i e x;obtain⟨d,rfl⟩:=h;exact⟨x,rfl,d⟩
theorem kbn {b:C} (h:bC P I rw L k rc=some (.loop b)): ∃x,rc= .loop x/\bC P I rw L k x=some b:=by
 cases rc<;>simp[bC,zB]at h
 ·obtain⟨l,_,h⟩:=h;split at h
  ·simp at h
  ·simp at h
 ·rename_i x;exact⟨x,rfl,h⟩
theorem Y9 {d:Bool} {l:List ROp} (h:bC P I rw L k rc=some (.region d l)): ∃id ops,rc= .region id ops d/\oi P I rw L k ops [] ops.toList=some l/\(d=true->yu ops l=true):=by
 cases rc<;>simp[bC,zB]at h
 rename_i id ops draw;obtain⟨l',f,h⟩:=h;split at h
 ·rename_i e;rcases kD h with⟨h,g⟩ | ⟨_,h,_⟩
  ·simp only[C.region.injEq]at h;obtain⟨rfl,rfl⟩:=h;exact⟨id,ops,by rw[e],f,fun _=>g⟩
  ·cases h
 ·rename_i e;simp only[zA,C.region.injEq]at h;obtain⟨rfl,rfl⟩:=h;exact⟨id,ops,by cases draw<;>simp_all,f,af⟩
theorem Xr {ck:List (Nat×Nat)} {l:List ROp} (h:bC P I rw L k rc=some (.regionD ck l)):
 ∃id ops,rc= .region id ops true/\oi P I rw L k ops [] ops.toList=some l/\oh ck ops l=true/\qQ ck l=true:=by
 cases rc
 case region id ops draw=>
  simp only[bC,zC,zB]at h;obtain⟨l',g,h⟩:=h;split at h
  ·rename_i f;rcases kD h with⟨h,_⟩ | ⟨e,h,d⟩
   ·cases h
   ·cases h;exact⟨id,ops,by rw[f],g,d⟩
  ·cases h
 case rangeFunc=>
  simp only[bC]at h;obtain⟨_,_,_,_,_,h,_⟩:=kz h;cases h
 all_goals simp[bC,zB]at h
theorem Z0 {x:Opd} {ps:List Nat} {b:C} (h:bC P I rw L k rc=some (.rangeF x ps b)):
 ∃f d z y e cb,rc= .rangeFunc f d z y/\opd I f=some x/\b= .round e cb/\bC P I rw L k z=some e/\bC P I rw L k y=some cb/\e.noRange=true/\cb.noRange=true/\(∀t∈d.toList,t<k)/\ps=d.toList:=by
 cases rc<;>simp[bC,zB]at h
 ·obtain⟨l,_,h⟩:=h;split at h
  ·simp at h
  ·simp at h
 ·rename_i f d asg y;obtain⟨s,b',g,i,j,m,o,p,q,r⟩:=kz h;cases m;exact⟨f,d,asg,y,g,b',rfl,i,rfl,o,j,p,q,r,rfl⟩
end
def pu (P:Program) (N:Nam) (g:Nat) (e:Ext):Prop:=
 (∃rf,Real P (N.nm g) rf)/\(∀args H n r d f,jo e args H n=some (r,d,f)->m0 P N g args H n r d f)/\ ∀args r,nI e args=some r->ow P N g args r
def S1 (P:Program) (I:Inv) (N:Nam) (Γ:Nat->Option F):Prop:=
 ∀g fn,Γ g=some fn->(∃rf rw L raw,P.funcs[N.nm g]? =some rf/\po P I rw L raw rf=some fn)\/ ∃e,fn.body= .ext e/\pu P N g e
theorem IJ {H f:ae} {n i k:Nat} {l:List UInt8} (h:vz H n k l=some (f,i)):n<=i/\ ∀q,q<n->H q=none->f q=none:=by
 unfold vz at h;split at h
 ·rename_i e;split at h
  ·split at h
   ·cases h;exact⟨ay _,fun _ _ h=>h⟩
   ·cases h;refine⟨vq _,fun q m d=> ?_⟩;rw[aP _ _ (by rintro rfl;rw[e]at d;cases d),aP _ _ aa];exact d
  ·cases h
 ·rename_i g e;split at h
  ·rename_i o j;split at h
   ·cases h;refine⟨vq _,fun q m d=> ?_⟩;rw[aP _ _ (by rintro rfl;rw[e]at d;cases d),aP _ _ aa,aP _ _ (by rintro rfl;rw[j]at d;cases d)];exact d
   ·cases h
  ·cases h
 ·cases h
theorem NF {e:Ext} {args:List V} {H m:ae} {n o:Nat} {r:V} (h:jo e args H n=some (r,m,o)):n<=o/\ ∀k,k<n->H k=none->m k=none:=by
 unfold jo at h;split at h
 ·cases h;exact⟨ay _,fun _ _ h=>h⟩
 ·split at h
  ·rename_i k len rs f;simp only[zB]at h;obtain⟨p,_,h⟩:=h;split at h
   ·cases h;refine⟨ay _,fun q _ d=> ?_⟩;rw[aP];exact d;rintro rfl;rw[f]at d;cases d
   ·cases h
  ·cases h
 ·cases h;exact⟨ay _,fun _ _ h=>h⟩
 ·split at h
  ·rename_i k len rs f;simp only[zB]at h;obtain⟨p,_,h⟩:=h;split at h
   ·cases h;refine⟨ay _,fun q _ d=> ?_⟩;rw[aP];exact d;rintro rfl;rw[f]at d;cases d
   ·cases h
  ·cases h
 ·cases h;exact⟨ay _,fun _ _ h=>h⟩
 ·cases h;exact⟨ay _,fun _ _ h=>h⟩
 ·simp only[zB]at h;obtain⟨p,_,h⟩:=h;split at h
  ·cases h;refine⟨vq _,fun q d t=> ?_⟩;rw[aP];exact t;rintro rfl;exact lC _ d
  ·cases h
 ·simp only[zE,cw]at h;obtain⟨a,b,i,j⟩:=h;cases j;exact IJ i
 ·split at h
  ·simp only[zE,cw]at h;obtain⟨a,b,i,j⟩:=h;cases j;exact IJ i
  ·cases h
 ·split at h
  ·rename_i f;cases h;refine⟨ay _,fun q _ d=> ?_⟩;rw[aP];exact d;rintro rfl;rw[f]at d;cases d
  ·rename_i g f;split at h
   ·rename_i l s;cases h;refine⟨ay _,fun q _ d=> ?_⟩;rw[aP _ _ (by rintro rfl;rw[f]at d;cases d),aP _ _ (by rintro rfl;rw[s]at d;cases d)];exact d
   ·cases h
  ·cases h
 ·cases h
def CR (P:Program) (I:Inv) (rc:Code) (m:Nat) (b:C):Prop:= ∃rw L k,k<=m/\bC P I rw L k rc=some b/\b.noRange=true
theorem NE {P:Program} {ro:Option Nat} {m:Machine}:m.fenced P (FW ro):=fenced_wide P m
def Fr (s d:St):Prop:=s.nxt<=d.nxt/\ ∀k,k<s.nxt->s.heap k=none->d.heap k=none
def VQ (P:Program) (I:Inv) (N:Nam):Task->Out->Prop
 | .code cd s,.code ex s'=>Fr s s'/\ ∀rw L k rc,bC P I rw L k rc=some cd-> ∀ro,(ro=none\/cd.noRange=true)-> ∀c ns A μ f a w,k<=ns->Rel N c ns A μ f s a w->rc.wpIn (FW ro) 0 P (j_ N c ns ex s') a w
 | .loop b s,.code ex s'=>Fr s s'/\ ∀rw L k rc,bC P I rw L k rc=some b-> ∀ro,(ro=none\/b.noRange=true)-> ∀c ns A μ f a w,k<=ns->Rel N c ns A μ f s a w->
    ∀(h:Frame) (j:List Item) (cs:List Frame),h.roundOf=ro-> ∃e i w',j_ N c ns ex s' e i w'/\ArrivesIn (Machine.fenced P (FW ro)) P (lone (h.atR a (.code rc:: .inLoop rc::j)) cs w) h j cs e i w'
 | .ops d p l s,.ops s'=> ∀full:List ROp,full.drop p=l->Run P N d full ((List.range l.length).map (p+ ·)) s s'
 | .pcall g args,.val r=>ow P N g args r
 | .rcall g args H n,.vals r H' n'=>m0 P N g args H n r H' n'/\n<=n'/\ ∀k,k<n->H k=none->H' k=none
 | _,_=>True
theorem Rel.grow {N:Nam} {c:Ctx} {ns:Nat} {A:Nat->Prop} {μ lam:Nat->Nat} {s:St} {a:Act} {w:World} (R:Rel N c ns A μ lam s a w) (n:Nat):Rel N c ns A μ lam (s.begin n) a w:=
 { R with adr:=fun t b o h=>by simp[St.begin]at h,fresh:=fun k h=>R.fresh k (by simp only[St.begin]at h;omega) }
theorem Qk {P:Program} {N:Nam} {d:Bool} {l:List ROp}: ∀{is:List Nat} {s e:St},Run P N d l is s e->e.bas=s.bas/\s.nxt<=e.nxt/\ ∀k,k<s.nxt->(∀i∈is,k≠s.bas+i)->s.heap k=none->e.heap k=none
 | [],s,e,h=>by cases h;exact⟨rfl,ay _,fun _ _ _ h=>h⟩
 | i::is,s,e,h=>by
   cases h with
   | cons z r t=>
     obtain⟨g,m,o⟩:=r.free;obtain⟨p,b2,q⟩:=Qk t;refine⟨by rw[p,g],cU m b2,fun k v f y=> ?_⟩;exact q k aa (fun j u=>by rw[g];exact f j (gt _ u)) (o k v (f i fh) y)
theorem RS {P:Program} {N:Nam} {d:Bool} {l:List ROp} {s f:St} (h:Run P N d l (List.range l.length) (s.begin l.length) f):Fr s f:=by
 obtain⟨g,j,e⟩:=Qk h;simp only[St.begin]at g j e;refine⟨aa,fun k o m=>e k aa (fun i _=>aa) m⟩
theorem j_.then {P:Program} {N:Nam} {c:Ctx} {ns:Nat} {ro:Option Nat} {d:Ex} {i g:St} {rc:Code} (h: ∀A μ f a w,Rel N c ns A μ f i a w->rc.wpIn (FW ro) 0 P (j_ N c ns d g) a w):
 ∀e a w,j_ N c ns .normal i e a w->Exit.then (rc.wpIn (FW ro) 0 P (j_ N c ns d g)) (j_ N c ns d g) e a w:=by
 rintro e a w ⟨rfl,j,μ',lam',m⟩;exact h j μ' lam' a w m
theorem Zo {N:Nam} {c:Ctx} {ns:Nat} {A:Nat->Prop} {μ lam:Nat->Nat} {s:St} {a:Act} {w:World} (R:Rel N c ns A μ lam s a w) {x y:V} {v:Value} (g:aO w A N.nm μ s.heap v x) (d:reify s.heap x=some y):
 aO w (fun q=>A q\/MBH s.heap μ q) N.nm (fun _=>0) (fun _=>none) v y:=by
 have m: ∀q (l:List Nat),(A q\/ ∃k∈l,sC s.heap k/\μ k=q)->A q\/MBH s.heap μ q:=by
  rintro q l (h | ⟨k,_,⟨J,rs,f,j⟩,rfl⟩)
  ·exact .inl h
  ·cases f with
   | true=>exact .inl (R.afz k J rs j)
   | false=>exact .inr ⟨k,_,j,af,rfl,rfl⟩
 have e: ∀{x y:V} {v:Value},aO w A N.nm μ s.heap v x->toT1 s.heap x=some y->cu w (fun q=>A q\/MBH s.heap μ q) N.nm (fun _=>0) (fun _=>none) v y:=
  fun g d=>(xx R.heap d g _ _).mono fun q h=>m q _ h
 cases x with
 | tup cs=>
   simp only[reify,zE]at d;obtain⟨ys,p,rfl⟩:=d;obtain⟨vs,rfl,r,h⟩:=g;obtain⟨E,H⟩:=fU p;refine⟨vs,rfl,by rw[r,E],fun i c hi=> ?_⟩;obtain⟨z,D,t⟩:=H i c hi;obtain⟨u,B,o⟩:=h i z D
   exact⟨u,B,e o.toV t⟩
 | _=>exact(e g d).toV
theorem Zz {P:Program} {I:Inv} {N:Nam} {Γ:Nat->Option F} (hI:I.Ok N) (hT:S1 P I N Γ) (Lj:P.follows .mixedOrders=true) (Gc: ∀rc m b,N.cr rc m b<->CR P I rc m b) {t:Task} {o:Out} (h:Big Γ N.G t o):VQ P I N t o:=by
 have An: ∀g fn,Γ g=some fn->(∀e,fn.body≠ .ext e)-> ∃rf rw L body b,P.funcs[N.nm g]? =some rf/\Real P (N.nm g) rf/\rf.body=some body/\bC P I rw L rf.ntmps body=some b/\fn.body=b/\
  rf.results.toList.length=fn.results.length/\(∀(i:Nat) (x:ResultVar) (y:Res),rf.results.toList[i]? =some x->fn.results[i]? =some y->uM P x y):=by
  intro g fn D Az
  obtain⟨rf,rw,L,raw,W,E⟩: ∃rf rw L raw,P.funcs[N.nm g]? =some rf/\po P I rw L raw rf=some fn:=by
   rcases hT g fn D with h | ⟨e,Y,_⟩
   ·exact h
   ·exact absurd Y (Az e)
  simp only[po,zC,zB]at E;obtain⟨body,hb,b,H,rs,AD,E⟩:=E;split at E
  ·simp at E
  ·rename_i hn;simp only[zA]at E;subst E;obtain⟨m1,m2⟩:=fU AD;refine⟨rf,rw,L,body,b,W,⟨W,by rw[hb];rfl,al hn⟩,hb,H,rfl,m1,fun i x y X hy=> ?_⟩;obtain⟨x',Dc,S⟩:=m2 i y hy;rw[X]at Dc;cases Dc
   cases x with
   | tmp t=>simp only[y6,zA]at S;subst S;rfl
   | cell ad ty=>
     simp only[y6,zC,zB,cw]at S;obtain⟨ag,n,A6,S⟩:=S;split at S<;>simp only[zA]at S<;>subst S<;>exact⟨rfl,A6⟩
 have D6: ∀g fn,Γ g=some fn-> ∃rf,Real P (N.nm g) rf:=by
  intro g fn D
  by_cases X: ∀e,fn.body≠ .ext e
  ·obtain⟨rf,_,_,_,_,_,Bh,_⟩:=An g fn D X;exact⟨rf,Bh⟩
  ·rcases hT g fn D with⟨rf,rw,L,raw,W,E⟩ | ⟨e,_,h⟩
   ·exfalso;refine X fun e Y=> ?_
    simp only[po,zC,zB]at E;obtain⟨body,hb,b,H,rs,AD,E⟩:=E;split at E
    ·simp at E
    ·simp only[zA]at E;subst E;simp only at Y;subst Y;exact xC H
   ·exact h.1
 induction h with
 | skip=>
   refine⟨⟨ay _,fun _ _ h=>h⟩,fun rw L k rc H ro _ c ns A μ B a w _ R=> ?_⟩;rcases kbm H with rfl | ⟨l,rfl⟩
   ·exact wpIn_skip ⟨rfl,A,μ,B,R⟩
   ·exact wpIn_label ⟨rfl,A,μ,B,R⟩
 | ret=>
   refine⟨⟨ay _,fun _ _ h=>h⟩,fun rw L k rc H ro _ c ns A μ B a w _ R=> ?_⟩;rw[kbU H]
   exact wpIn_ret ⟨rfl,A,μ,B,R⟩
 | exit=>
   refine⟨⟨ay _,fun _ _ h=>h⟩,fun rw L k rc H ro _ c ns A μ B a w _ R=> ?_⟩;rw[kbo H]
   exact wpIn_exit ⟨rfl,A,μ,B,R⟩
 | region h U=>
   rename_i s s' d l;have Am:=U l rfl;simp only[gy,List.map_id']at Am;refine⟨RS Am,fun rw L k rc H ro Z c ns A μ B a w J R=> ?_⟩;obtain⟨id,ops,rfl,Jn,GW⟩:=Y9 H;obtain⟨W,E⟩:=xb P I Jn
   have EY: ∀(i:Nat) (r:ROp),l[i]? =some r-> ∃o,ops.toList[i]? =some o/\OpRel P I ns ops o r:=by
    intro i r hi;obtain⟨o,ho,S⟩:=E i r hi;refine⟨o,ho,S.dst,S.op,fun x X=>fw (S.lt x X) J,?_⟩;have D:=S.guard;unfold pJ at D⊢;split at D
    ·exact D
    ·split at D
     ·split at D
      ·rename_i Ad;simp only[zA]at D;simp only[fw Ad J,aU,D]
      ·simp at D
     ·simp at D
   have BD: ∀i,i<l.length->(s.begin l.length).heap ((s.begin l.length).bas+i)=none/\(s.begin l.length).bas+i<(s.begin l.length).nxt:=by
    intro i hi;exact⟨R.fresh _ (by simp[St.begin]),by simp only[St.begin];omega⟩
   cases d with
   | false=>
     refine wpIn_region ?_;have AS:ops.size=l.length:=al W
     rw[AS]
     exact Zh hI ⟨W,EY⟩ _ Am List.nodup_range (fun i hi=>BD i (dS.1 hi)) (R.grow _) (fun a' w' A' μ' lam' M=>⟨rfl,A',μ',lam',M⟩)
   | true=>
     refine wpIn_region_draw fun t=> ?_
     rw[Lj,Region.schedule,wJ,ah rfl]
     exact L_ hI (T:=fun _ _ _=>True) (fun _ _ _ _ _ _=>trivial) (ck:=[]) af ⟨W,EY⟩ (GW rfl) _ Am.toT BD (R.grow _).drew (fun a' w' A' μ' lam' M=>⟨rfl,A',μ',lam',M⟩) t
 | regionD h FG U=>
   rename_i s s' ck l;have Am:=U l rfl;simp only[gy,List.map_id']at Am;refine⟨RS Am,fun rw L k rc H ro Z c ns A μ B a w J R=> ?_⟩;obtain⟨id,ops,rfl,Jn,GW,AE⟩:=Xr H;obtain⟨W,E⟩:=xb P I Jn
   have EY: ∀(i:Nat) (r:ROp),l[i]? =some r-> ∃o,ops.toList[i]? =some o/\OpRel P I ns ops o r:=by
    intro i r hi;obtain⟨o,ho,S⟩:=E i r hi;refine⟨o,ho,S.dst,S.op,fun x X=>fw (S.lt x X) J,?_⟩;have D:=S.guard;unfold pJ at D⊢;split at D
    ·exact D
    ·split at D
     ·split at D
      ·rename_i Ad;simp only[zA]at D;simp only[fw Ad J,aU,D]
      ·simp at D
     ·simp at D
   have BD: ∀i,i<l.length->(s.begin l.length).heap ((s.begin l.length).bas+i)=none/\(s.begin l.length).bas+i<(s.begin l.length).nxt:=by
    intro i hi;exact⟨R.fresh _ (by simp[St.begin]),by simp only[St.begin];omega⟩
   refine wpIn_region_draw fun t=> ?_
   rw[Lj,Region.schedule,wJ,ah rfl]
   refine L_ hI (T:=uD N ck s') (fun i r s u Y h hm y hy=>(Y y hy).symm.trans (h hm y hy)) (ck:=ck) (fun j i hm x y X hy s W E=>WI FG hm X hy W E) ⟨W,EY⟩ GW _
    (Am.annot AE vX) BD (R.grow _).drew (fun a' w' A' μ' lam' M=>⟨rfl,A',μ',lam',M⟩) t
 | seqN W E O ih2=>
   refine⟨⟨cU O.1.1 ih2.1.1,fun k J hn=>ih2.1.2 k (fw J O.1.1) (O.1.2 k J hn)⟩,fun rw L k rc H ro Z c ns A μ B a w J R=> ?_⟩;have KH:ro=none\/(_:C).noRange=true:=Z.imp id fun h=>(zF _ _▸h:_/\_).2
   rcases SG H with⟨x,y,rfl,X,hy⟩ | ⟨x,rfl,rfl,X⟩
   rotate_left
   ·rename_i e;cases W;refine Ye (wpIn_mono (ih2.2 rw L k x X ro KH c ns A μ B a w J R) ?_);rintro e' a' w' ⟨rfl,M⟩;cases e<;>exact⟨rfl,M⟩
   have Ja:ro=none\/(_:C).noRange=true:=Z.imp id fun h=>(zF _ _▸h:_/\_).1
   refine wpIn_seq (wpIn_mono (O.2 rw L k x X ro Ja c ns A μ B a w J R) ?_)
   exact j_.then fun A μ B a w M=>ih2.2 rw L k y hy ro KH c ns A μ B a w J M
 | seqX W Y O=>
   rename_i e;refine⟨O.1,fun rw L k rc H ro Z c ns A μ B a w J R=> ?_⟩;rcases SG H with⟨x,y,rfl,X,hy⟩ | ⟨x,rfl,rfl,X⟩
   rotate_left
   ·cases W;exact absurd rfl Y
   have Ja:ro=none\/(_:C).noRange=true:=Z.imp id fun h=>(zF _ _▸h:_/\_).1
   refine wpIn_seq (wpIn_mono (O.2 rw L k x X ro Ja c ns A μ B a w J R) ?_);rintro e' a' w' ⟨rfl,M⟩
   cases e with
   | normal=>exact absurd rfl Y
   | exit id=>exact⟨rfl,M⟩
   | ret=>exact⟨rfl,M⟩
 | cond CM h U=>
   refine⟨U.1,fun rw L k rc H ro Z c ns A μ B a w J R=> ?_⟩;obtain⟨c0,x,y,rfl,h0,X,hy⟩:=kbp H;refine wpIn_cond (ut hI R h0 CM) (U.2 rw L k _ ?_ ro ?_ c ns A μ B a w J R)
   ·split
    ·exact X
    ·exact hy
   ·refine Z.imp id fun h=> ?_
    simp only[C.noRange,zF]at h;split
    ·exact h.1
    ·exact h.2
 | block h U=>
   rename_i id b e;refine⟨U.1,fun rw L k rc H ro Z c ns A μ B a w J R=> ?_⟩;obtain⟨x,rfl,X⟩:=Z1 H;refine wpIn_block (wpIn_mono (U.2 rw L k x X ro Z c ns A μ B a w J R) ?_);rintro e' a' w' ⟨rfl,M⟩
   cases e with
   | normal=>exact⟨rfl,M⟩
   | ret=>exact⟨rfl,M⟩
   | exit id'=>
     simp only[tK,Exit.inBlock]
     by_cases NO:id'=id
     ·subst NO;simp only[aU];exact⟨rfl,M⟩
     ·rw[ac NO,ac (al NO)];exact⟨rfl,M⟩
 | loop h U=>
   refine⟨U.1,fun rw L k rc H ro Z c ns A μ B a w J R=> ?_⟩;obtain⟨x,rfl,X⟩:=kbn H;intro b0 kk cs Co _ _;obtain⟨e,a',w',hp,Br⟩:=U.2 rw L k x X ro Z c ns A μ B a w J R b0 kk cs Co
   exact⟨e,a',w',hp,.of_steps (.one NE stepR_loop) Br⟩
 | loopN W E O ih2=>
   refine⟨⟨cU O.1.1 ih2.1.1,fun k J hn=>ih2.1.2 k (fw J O.1.1) (O.1.2 k J hn)⟩,fun rw L k rc H ro Z c ns A μ B a w J R b0 kk cs Co=> ?_⟩;obtain⟨e,a1,w1,⟨rfl,A',μ',lam',M⟩,Br⟩:=O.2 rw L k rc H ro Z c ns A μ B a w J R b0 (.inLoop rc::kk) cs Co trivial sv;obtain⟨e2,a2,w2,D0,LT⟩:=ih2.2 rw L k rc H ro Z c ns A' μ' lam' a1 w1 J M b0 kk cs Co
   exact⟨e2,a2,w2,D0,.of_steps (StepsIn.trans Br (.one NE stepR_inLoop)) LT⟩
 | loopX W Y O=>
   rename_i e;refine⟨O.1,fun rw L k rc H ro Z c ns A μ B a w J R b0 kk cs Co=> ?_⟩;obtain⟨e',a1,w1,⟨rfl,M⟩,Br⟩:=O.2 rw L k rc H ro Z c ns A μ B a w J R b0 (.inLoop rc::kk) cs Co trivial sv;refine⟨_,a1,w1,⟨rfl,M⟩,?_⟩
   cases e with
   | normal=>exact absurd rfl Y
   | exit id=>exact .pass (x:=.inLoop rc) rfl (fun _ _=> .inl (by simp[tK])) Br
   | ret=>exact .pass (x:=.inLoop rc) rfl (fun _ _=> .inl (by simp[tK])) Br
 | opsNil=>
   intro full _
   exact .nil
 | opsSkip hw hf h U=>
   rename_i p s s' o l;intro full AC;have Ag:full[p]? =some o:=by have:=bz (·[0]?) AC;simpa using this
   have BU:full.drop (p+1)=l:=by have:=bz List.tail AC;simpa using this
   have S:=U full BU;rw[d_,pz,aT,mj,gV];refine .cons Ag (.skip hw hf) ?_;have:(fun x=>p+x)∘Nat.succ=fun x=>p+1+x:=by funext x;simp;omega
   rw[this];exact S
 | opsEff hw hf Y h U=>
   rename_i p s s' o l e;intro full AC;have Ag:full[p]? =some o:=by have:=bz (·[0]?) AC;simpa using this
   have BU:full.drop (p+1)=l:=by have:=bz List.tail AC;simpa using this
   have S:=U full BU;rw[d_,pz,aT,mj,gV];refine .cons Ag (.eff hw hf Y) ?_;have:(fun x=>p+x)∘Nat.succ=fun x=>p+1+x:=by funext x;simp;omega
   rw[this];exact S
 | opsPure hw hf ho As Ax D Ec Au AD H hd h ihc U=>
   rename_i d p s s' o l f args fv g a b vs rs fn r;intro full AC;have Ag:full[p]? =some o:=by have:=bz (·[0]?) AC;simpa using this
   have BU:full.drop (p+1)=l:=by have:=bz List.tail AC;simpa using this
   have S:=U full BU;obtain⟨rf,Bh⟩:=D6 g fn D;rw[d_,pz,aT,mj,gV];refine .cons Ag (.pure hw hf ho As Ax Bh Au AD ihc hd) ?_;have:(fun x=>p+x)∘Nat.succ=fun x=>p+1+x:=by funext x;simp;omega
   rw[this];exact S
 | opsRaw hw hf ho As Ax D Ec Au H h ihc U=>
   rename_i d p s s' o l f args fv g a b vs fn r h' n';intro full AC;have Ag:full[p]? =some o:=by have:=bz (·[0]?) AC;simpa using this
   have BU:full.drop (p+1)=l:=by have:=bz List.tail AC;simpa using this
   have S:=U full BU;obtain⟨rf,Bh⟩:=D6 g fn D;rw[d_,pz,aT,mj,gV];refine .cons Ag (.raw hw hf ho As Ax Bh Au ihc.1 ihc.2.1 ihc.2.2) ?_;have:(fun x=>p+x)∘Nat.succ=fun x=>p+1+x:=by funext x;simp;omega
   rw[this];exact S
 | opsFresh hw hf ho As Ax D Ec Au AD hd H Y h ihc U=>
   rename_i d p s s' o l f args fv g a b vs rs fn r h' n' e;intro full AC;have Ag:full[p]? =some o:=by have:=bz (·[0]?) AC;simpa using this
   have BU:full.drop (p+1)=l:=by have:=bz List.tail AC;simpa using this
   have S:=U full BU;obtain⟨rf,Bh⟩:=D6 g fn D;rw[d_,pz,aT,mj,gV];refine .cons Ag (.fresh hw hf ho As Ax Bh Au AD hd ihc.1 Y) ?_;have:(fun x=>p+x)∘Nat.succ=fun x=>p+1+x:=by funext x;simp;omega
   rw[this];exact S
 | rangeF As Ax D Ec H hl Y ihc=>
   rename_i s x ps bd bd' fv g as bs fn r h' n' env' ps' st e;obtain⟨Ct,Fj,Fh⟩:=ihc;refine⟨⟨by show s.nxt<=n';omega,fun k J hn=> ?_⟩,fun rw L k rc Fs ro Z c ns A μ B a w J R=> ?_⟩
   ·show upd h' s.nxt _ k=none;rw[aP _ _ aa];exact Fh k aa (by rw[aP _ _ aa];exact hn)
   ·obtain rfl:ro=none:=Z.resolve_right (by simp[C.noRange]);obtain⟨f,aps,z,y,ca,cb,rfl,hf,rfl,hz,hy,N0,Lc,Ad,rfl⟩:=Z0 Fs;obtain⟨rf,Bh⟩:=D6 g fn D
    exact WR hI R hf As Ax Bh ((Gc _ _ _).2 ⟨rw,L,k,J,hz,N0⟩) ((Gc _ _ _).2 ⟨rw,L,k,J,hy,Lc⟩) (fun t ht=>fw (Ad t ht) J) Ct hl Y
 | opsYield hw hf ho As AB Au Ac Bi AT CL AF h iha ihb U=>
   rename_i d p s s' s1 s2 o l f args k vs env env1 env' ps ps1 ps' ca cb bd1 bd' e;intro full AC;have Ag:full[p]? =some o:=by have:=bz (·[0]?) AC;simpa using this
   have BU:full.drop (p+1)=l:=by have:=bz List.tail AC;simpa using this
   have S:=U full BU;rw[d_,pz,aT,mj,gV]
   have Hf:qO P N ca (qS s.heap s.nxt k env ps (.round ca cb) vs) .normal s1:=by
    intro rc m JU l c A μ B a w R;obtain⟨rw,L,k',Ah,CZ,Lc⟩:=(Gc _ _ _).1 JU;exact iha.2 rw L k' rc CZ (some l) (.inr Lc) c m A μ B a w Ah R
   have Hd:qO P N cb { s1 with heap:=upd s1.heap k (some (.loop env1 ps1 bd1 .busy)) } e s2:=by
    intro rc m JU l c A μ B a w R;obtain⟨rw,L,k',Ah,CZ,Lc⟩:=(Gc _ _ _).1 JU;exact ihb.2 rw L k' rc CZ (some l) (.inr Lc) c m A μ B a w Ah R
   have AG:s.nxt<=s2.nxt/\ ∀q,q<s.nxt->s.heap q=none->s2.heap q=none:=by
    have Az: ∀q,s.heap q=none->q≠k:=by rintro q hn rfl;rw[AB]at hn;cases hn
    refine⟨cU iha.1.1 ihb.1.1,fun q hq hn=>ihb.1.2 q (fw hq iha.1.1) ?_⟩;show upd s1.heap k _ q=none;rw[aP _ _ (Az q hn)];refine iha.1.2 q hq ?_;show upd s.heap k _ q=none;rw[aP _ _ (Az q hn)];exact hn
   refine .cons Ag (.yld hw hf ho As AB Au Ac Hf AT Hd AF AG) ?_;have:(fun x=>p+x)∘Nat.succ=fun x=>p+1+x:=by funext x;simp;omega
   rw[this];exact S
 | pcall D Ec h Y hv Bh U=>
   rename_i g args fn s' e v r;obtain⟨rf,rw,L,body,b,hf,Bb,hb,CZ,rfl,AO,C7⟩:=An g fn D (fun e Y=>by rw[Y]at h;cases h);intro A w vs hA JI B0
   have HR:Rel N ⟨w,fun _=>False,A,fun _=>none,fun _=>0⟩ 0 A (fun _=>0) (fun _=>0) (.init [] (fun _=>none) 0) dr w:=
    { size:=rfl,defers:=d7.nil _ _ _,env:=fun t=>by simp[St.init,mU,dr,aO],loc:=fun t cs h=>by simp[St.init]at h,adr:=fun t b o h=>by simp[St.init]at h,
      heap:=fun k o h=>by simp[St.init]at h,hinj:=fun k k' o o' h=>by simp[St.init]at h,linj:=fun t t' h=>by simp[St.init]at h,lh:=fun t k o h=>by simp[St.init]at h,
      aH:=fun r _=>by rintro⟨k,o,h,_⟩;simp[St.init]at h,aL:=fun r _=>by rintro⟨t,h,_⟩;simp[St.init]at h,alt:=hA,afz:=fun k sz rs h=>by simp[St.init]at h,fresh:=fun _ _=>rfl,
      glob:=JI,cout:=⟨rfl,rfl⟩,csize:=ay _,ckeep:=fun _ _ _=>rfl,cshp:=fun _ _ h=>h,csub:=fun _ h=>h,canew:=fun _ h=> .inl h,clive:=fun r=>by rintro⟨k,o,h,_⟩;simp[St.init]at h,
      cloc:=fun t h=>by simp[St.init]at h,chp:=fun k o h=>by simp at h }
   have R0:=N7 HR B0 rf.ntmps;refine Jw hf hb Y (U.2 rw L _ body CZ none (.inl rfl) _ _ A _ _ _ w (by simp;omega) R0) ?_;intro A' μ' lam' tmps w' M;obtain⟨v',Am,Ae⟩:=Su (P:=P) M AO C7 hv;refine⟨v',Am,v',rfl,M.cout,M.csize,fun q hq=>M.ckeep q hq (fun h=>h),(Zo M Ae Bh).mono ?_⟩;rintro q (h | h)
   ·rcases M.canew q h with W | W | W
    ·exact .inl W
    ·exact W.elim
    ·exact .inr ⟨W,M.alt q h⟩
   ·rcases M.clive q h with W | W
    ·exact W.elim
    ·obtain⟨k,o,J,_,hl,rfl⟩:=h
     exact .inr ⟨W,M.lt_live J hl⟩
 | rcall D Ec h Y hv U=>
   rename_i g args fn s' e v hp n;obtain⟨rf,rw,L,body,b,hf,Bb,hb,CZ,rfl,AO,C7⟩:=An g fn D (fun e Y=>by rw[Y]at h;cases h);refine⟨?_,U.1.1,U.1.2⟩;intro c A μ B w vs HR B0;have R0:=N7 HR B0 rf.ntmps;refine Jw hf hb Y (U.2 rw L _ body CZ none (.inl rfl) _ _ A _ _ _ w (by simp;omega) R0) ?_;intro A' μ' lam' tmps w' M;obtain⟨v',Am,Ae⟩:=Su (P:=P) M AO C7 hv
   exact⟨v',Am,v',A',μ',lam',rfl,N4 M,Ae⟩
 | rext D Ec hb h=>
   rename_i g args fn e r hp h' n n';obtain⟨f1,f2⟩:=NF h;refine⟨?_,f1,f2⟩;rcases hT g fn D with⟨rf,rw,L,raw,W,E⟩ | ⟨e',BZ,X⟩
   ·exfalso;simp only[po,zC,zB]at E;obtain⟨body,_,b,H,rs,AD,E⟩:=E;split at E
    ·simp at E
    ·simp only[zA]at E;subst E;simp only at hb;subst hb;exact xC H
   ·rw[hb]at BZ;cases BZ
    exact X.2.1 args hp n r h' n' h
 | pext D Ec hb h=>
   rename_i g args fn e r;rcases hT g fn D with⟨rf,rw,L,raw,W,E⟩ | ⟨e',BZ,X⟩
   ·exfalso;simp only[po,zC,zB]at E;obtain⟨body,_,b,H,rs,AD,E⟩:=E;split at E
    ·simp at E
    ·simp only[zA]at E;subst E;simp only at hb;subst hb;exact xC H
   ·rw[hb]at BZ;cases BZ;exact X.2.2 args r h
structure Slot where
 v:V
 box:Option (List V)
 ad:Option (Nat×Nat)
structure M where
 sl:Nat->Slot
 used:Nat->Bool
 heap:Nat->Option O
 nxt:Nat
 bas:Nat
def M.st (m:M):St:={ env:=fun t=>(m.sl t).v,loc:=fun t=>(m.sl t).box,adr:=fun t=>(m.sl t).ad,used:=m.used,heap:=m.heap,nxt:=m.nxt,bas:=m.bas }
def beg (f:Nat->Slot):Nat->Slot:=fun t=>{ f t with ad:=none }
def M.begin (m:M) (n:Nat):M:={ m with sl:=beg m.sl,used:=fun _=>false,bas:=m.nxt,nxt:=m.nxt+n }
theorem QM (m:M) (n:Nat):m.st.begin n=(m.begin n).st:=rfl
def eO (f:Nat->Slot):Option (Nat×List V)->Nat->Slot
 | none=>f
 | some (b,cs)=>upd f b { f b with box:=some cs }
def M.apply (m:M) (f:Option Nat) (e:Eff):M:=
 { m with
   sl:=match f with | none=>eO m.sl e.wloc | some d=>upd (eO m.sl e.wloc) d ⟨e.val,e.loc,e.adr⟩
   used:=match e.adr with | some (b,_)=>upd m.used b true | none=>m.used
   heap:=bl m.heap e.hp }
theorem nZ (m:M) (g:Option Nat) (e:Eff):m.st.apply g e=(m.apply g e).st:=by
 have i: ∀(f:Nat->Slot) (w:Option (Nat×List V)) (t:Nat),(eO f w t).v=(f t).v/\(eO f w t).ad=(f t).ad/\
  (eO f w t).box=(match w with | some (b,cs)=>upd (fun t=>(f t).box) b (some cs) | none=>fun t=>(f t).box) t:=by
  intro f w t
  cases w with
  | none=>simp[eO]
  | some x=>
    obtain⟨b,cs⟩:=x
    by_cases h:t=b
    ·subst h;simp[eO]
    ·simp[eO,upd,h]
 cases g with
 | none=>
   simp only[St.apply,M.apply,M.st,St.mk.injEq,nt];refine⟨?_,?_,?_,rfl⟩
   ·funext t;exact(i m.sl e.wloc t).1.symm
   ·funext t;exact(i m.sl e.wloc t).2.2.symm
   ·funext t;exact(i m.sl e.wloc t).2.1.symm
 | some d=>
   simp only[St.apply,M.apply,M.st,St.mk.injEq,nt];refine⟨?_,?_,?_,rfl⟩
   ·funext t
    by_cases h:t=d
    ·subst h;simp
    ·simp[upd,h,(i m.sl e.wloc t).1]
   ·funext t
    by_cases h:t=d
    ·subst h;simp
    ·rw[aP _ _ h,aP _ _ h];exact(i m.sl e.wloc t).2.2.symm
   ·funext t
    by_cases h:t=d
    ·subst h;simp
    ·simp[upd,h,(i m.sl e.wloc t).2.1]
def M.init (args:List V) (h:ae) (n:Nat):M:=
 { sl:=fun t=>⟨mU args t,none,none⟩,used:=fun _=>false,heap:=h,nxt:=n,bas:=n }
theorem kb1 (args:List V) (h:ae) (n:Nat):St.init args h n=(M.init args h n).st:=rfl
def M.free (m:M) (f:Option Nat) (e:Eff):Bool:=
 match f with
 | none=>true
 | some d=> !m.used d&&(match e.adr with | none=>true | some (b,_)=>b != d)
theorem oc {m:M} {f:Option Nat} {e:Eff} (h:m.free f e=true):m.st.free f e:=by
 intro d i;subst i;simp only[M.free,zF,eI]at h;refine⟨h.1,fun b o g=> ?_⟩;rw[g]at h;simpa using h.2
section
variable (Γ:Nat->Option F) (G:Nat->List T)
def PC (g:Nat) (args:List V) (r:V):Prop:=Big Γ G (.pcall g args) (.val r)
def RC (g:Nat) (args:List V) (h:ae) (n:Nat) (r:V) (h':ae) (d:Nat):Prop:=Big Γ G (.rcall g args h n) (.vals r h' d)
def uG (d:Bool) (m:M) (e:Option Nat) (l:List V) (r:V) (K:M->Prop):Prop:=
 if r.scalar then K (m.apply e { val:=r })else(d=true->l.flatMap (b_ m.heap)=[])/\K (m.apply e { val:=r,hp:=freezes m.heap (l.flatMap (b_ m.heap)) })
def uA (d:Bool) (m:M) (e:Option Nat) (g:Nat) (l:List V) (K:M->Prop):Prop:=
 m.free e {}=true/\ ∃rs,l.mapM (toT1 m.heap)=some rs/\ ∃r,PC Γ G g rs r/\(∃fn,Γ g=some fn/\fn.raw=false)/\uG d m e l r K
def uz (m:M) (d:Option Nat) (g:Nat) (l:List V) (K:M->Prop):Prop:=
 m.free d {}=true/\ ∃r h' e,RC Γ G g l m.heap m.nxt r h' e/\(∃fn,Γ g=some fn/\fn.raw=true)/\K ({ m with heap:=h',nxt:=e }.apply d { val:=r })
def Tp (p:Nat) (m:M) (d:Option Nat) (g:Nat) (l:List V) (K:M->Prop):Prop:=
 m.free d {}=true/\l.flatMap (b_ m.heap)=[]/\ ∃rs,l.mapM (toT1 m.heap)=some rs/\ ∃r h' f,RC Γ G g rs (fun _=>none) 0 r h' f/\(∃fn,Γ g=some fn/\fn.raw=true)/\ ∃e,ja (m.bas+p) r h'=some e/\K (m.apply d e)
def YC (k:Nat) (vs:List V) (h:ae) (n:Nat) (r:V) (h':ae) (p:Nat):Prop:=
 ∃env ps o cb j env1 i f env' g d e m,h k=some (.loop env ps (.round o cb) .ready)/\vs.length=ps.length/\Big Γ G (.code o (qS h n k env ps (.round o cb) vs)) (.code .normal j)/\
  j.heap k=some (.loop env1 i f .enter)/\Big Γ G (.code cb { j with heap:=upd j.heap k (some (.loop env1 i f .busy)) }) (.code e m)/\m.heap k=some (.loop env' g d .busy)/\
  r= .t (.bool (decide (e=Ex.normal)))/\h'=upd m.heap k (some (.loop env' g d e.toL))/\p=m.nxt
def vh (m:M) (d:Option Nat) (k:Nat) (l:List V) (K:M->Prop):Prop:=
 m.free d {}=true/\ ∃r h' e,YC Γ G k l m.heap m.nxt r h' e/\K ({ m with heap:=h',nxt:=e }.apply d { val:=r })
def uU:V->Option Nat
 | .yl k=>some k
 | _=>none
def j0 (d:Bool) (p:Nat) (m:M) (h:Option Nat) (op:AOp) (K:M->Prop):Prop:=
 match op with
 | .call raw f args=>
   match(evl G m.st f).bind cG,cY G m.st args with
   | some (g,a,b),some vs=>if raw then uz Γ G m h g (a++vs++b) K else uA Γ G d m h g (a++vs++b) K
   | none,some vs=>match(evl G m.st f).bind uU with
     | some k=>raw=true/\vh Γ G m h k vs K
     | none=>False
   | _,_=>False
 | .fcall f args=>
   match(evl G m.st f).bind cG,cY G m.st args with
   | some (g,a,b),some vs=>Tp Γ G p m h g (a++vs++b) K
   | _,_=>False
 | op=>match ao G p m.st op with
   | none=>False
   | some e=>m.free h e=true/\K (m.apply h e)
def wpO (d:Bool):Nat->List ROp->M->(M->Prop)->Prop
 | _,[],m,Q=>Q m
 | p,o::l,m,Q=>
   match cJ m.st o.guard with
   | none=>False
   | some b=>if b=true then j0 Γ G d p m o.dst o.op (fun e=>wpO d (p+1) l e Q)else m.free o.dst {}=true/\wpO d (p+1) l (m.apply o.dst {}) Q
def W (c:C) (m:M) (Q:Ex->M->Prop):Prop:= ∃e d,Big Γ G (.code c m.st) (.code e d.st)/\Q e d
def WL (c:C) (m:M) (Q:Ex->M->Prop):Prop:= ∃e d,Big Γ G (.loop c m.st) (.code e d.st)/\Q e d
def WO (d:Bool) (p:Nat) (l:List ROp) (m:M) (Q:M->Prop):Prop:= ∃e,Big Γ G (.ops d p l m.st) (.ops e.st)/\Q e
end
section
variable {Γ:Nat->Option F} {G:Nat->List T}
theorem mJ {d:Bool}: ∀{l:List ROp} {p:Nat} {m:M} {Q:M->Prop},wpO Γ G d p l m Q->WO Γ G d p l m Q
 | [],p,m,Q,h=>⟨m,.opsNil,h⟩
 | o::l,p,m,Q,h=>by
   simp only[wpO]at h;split at h
   ·exact h.elim
   ·rename_i b y;split at h
    ·rename_i J;subst J;unfold j0 at h;split at h
     ·rename_i raw f args D;split at h
      ·rename_i g a b vs q v;simp only[zB]at q;obtain⟨R,q,z⟩:=q;split at h
       ·rename_i H;subst H;obtain⟨u,r,h',X,A,⟨fn,B,E⟩,i⟩:=h;obtain⟨t,j,s⟩:=mJ i;refine⟨t,.opsRaw y (oc u) D q z B E v A ?_,s⟩;rw[<- nZ]at j;exact j
       ·rename_i H;have H:raw=false:=al H
        subst H;obtain⟨u,rs,N,r,A,⟨fn,B,E⟩,i⟩:=h;unfold uG at i;split at i
        ·rename_i O;obtain⟨t,j,s⟩:=mJ i;refine⟨t,.opsPure y (oc u) D q z B E v N A (fun _=> .inl O) ?_,s⟩;rw[ah O,nZ];exact j
        ·rename_i O;obtain⟨hd,i⟩:=i;obtain⟨t,j,s⟩:=mJ i;refine⟨t,.opsPure y (oc u) D q z B E v N A (fun h=> .inr (hd h)) ?_,s⟩;rw[ac O,nZ];exact j
      ·rename_i vs z v;split at h
       ·rename_i k i;obtain⟨rfl,u,r,h',X,⟨env,ps,ca,cb,s1,env1,ps1,bd1,env',ps',bd',e,s2,g1,g2,g3,S,g3'',g4,rfl,rfl,rfl⟩,hK⟩:=h;simp only[zB]at i;obtain⟨R,q,W⟩:=i
        have Y:evl G m.st f=some (.yl k):=by
         cases R<;>simp[uU]at W
         subst W;exact q
        obtain⟨t,j,s⟩:=mJ hK;refine⟨t,.opsYield y (oc u) D Y g1 v g2 g3 S g3'' g4 ?_,s⟩;rw[<- nZ]at j;exact j
       ·exact h.elim
      ·exact h.elim
     ·rename_i f args D;split at h
      ·rename_i g a b vs q v;simp only[zB]at q;obtain⟨R,q,z⟩:=q;obtain⟨u,Z,rs,N,r,h',X,A,⟨fn,B,E⟩,e,U,i⟩:=h;obtain⟨t,j,s⟩:=mJ i;refine⟨t,.opsFresh y (oc u) D q z B E v N Z A U ?_,s⟩;rw[nZ];exact j
      ·exact h.elim
     ·split at h
      ·exact h.elim
      ·rename_i e U;obtain⟨u,i⟩:=h;obtain⟨t,j,s⟩:=mJ i;exact⟨t,.opsEff y (oc u) U (by rw[nZ];exact j),s⟩
    ·rename_i J;have J:b=false:=al J
     subst J;obtain⟨u,i⟩:=h;obtain⟨t,j,s⟩:=mJ i;exact⟨t,.opsSkip y (oc u) (by rw[nZ];exact j),s⟩
theorem kaD {d:Bool} {l:List ROp} {m:M} {Q:Ex->M->Prop} (h:wpO Γ G d 0 l (m.begin l.length) (Q .normal)):W Γ G (.region d l) m Q:=by
 obtain⟨g,e,f⟩:=mJ h;exact⟨.normal,g,.region (by rw[QM];exact e),f⟩
theorem ZH {ck:List (Nat×Nat)} {l:List ROp} {m:M} {Q:Ex->M->Prop} (h:wpO Γ G true 0 l (m.begin l.length) (fun d=>mI G d.st l ck=true/\Q .normal d)):W Γ G (.regionD ck l) m Q:=by
 obtain⟨d,e,g,f⟩:=mJ h;exact⟨.normal,d,.regionD (by rw[QM];exact e) g,f⟩
theorem kcC {m:M} {Q:Ex->M->Prop} (h:Q .normal m):W Γ G .skip m Q:=⟨_,_,.skip,h⟩
theorem Vm {m:M} {Q:Ex->M->Prop} (h:Q .ret m):W Γ G .ret m Q:=⟨_,_,.ret,h⟩
theorem kcu {m:M} {id:Nat} {Q:Ex->M->Prop} (h:Q (.exit id) m):W Γ G (.exit id) m Q:=⟨_,_,.exit,h⟩
def g_ (K:M->Prop) (Q:Ex->M->Prop):Ex->M->Prop
 | .normal,m=>K m
 | e,m=>Q e m
theorem Vn {a b:C} {m:M} {Q:Ex->M->Prop} (h:W Γ G a m (g_ (fun j=>W Γ G b j Q) Q)):W Γ G (.seq a b) m Q:=by
 obtain⟨e,g,f,d⟩:=h
 cases e with
 | normal=>obtain⟨e,o,i,d⟩:=d;exact⟨e,o,.seqN f i,d⟩
 | exit id=>exact⟨_,g,.seqX f af,d⟩
 | ret=>exact⟨_,g,.seqX f af,d⟩
theorem kcv {c:Opd} {a b:C} {m:M} {Q:Ex->M->Prop} {t:Bool} (g:ib G m.st c=some t) (i:t=true->W Γ G a m Q) (j:t=false->W Γ G b m Q):W Γ G (.cond c a b) m Q:=by
 cases t with
 | true=>obtain⟨e,f,h,d⟩:=i rfl;exact⟨e,f,.cond g h,d⟩
 | false=>obtain⟨e,f,h,d⟩:=j rfl;exact⟨e,f,.cond g h,d⟩
def ot (id:Nat) (Q:Ex->M->Prop) (e:Ex) (m:M):Prop:=Q (if e= .exit id then .normal else e) m
theorem kc6 {id:Nat} {b:C} {m:M} {Q:Ex->M->Prop} (h:W Γ G b m (ot id Q)):W Γ G (.block id b) m Q:=by
 obtain⟨e,f,h,d⟩:=h;exact⟨_,f,.block h,d⟩
theorem kc5 {x:Opd} {ps:List Nat} {i d:C} {m:M} {Q:Ex->M->Prop} {j:V} {g:Nat} {a b:List V} {r:V} {h':ae} {o:Nat} {env':Nat->V} {h:List Nat} {p:LSt} {e:Ex}
 (q:evl G m.st x=some j) (s:cG j=some (g,a,b)) (f: ∃fn,Γ g=some fn/\fn.raw=true)
 (v:RC Γ G g (a++[.yl m.nxt]++b) (upd m.heap m.nxt (some (.loop (fun t=>(m.sl t).v) ps i .ready))) (m.nxt+1) r h' o)
 (z:h' m.nxt=some (.loop env' h d p)) (y:p.ends=some e) (u:Q e { m with heap:=upd h' m.nxt (some .dead),nxt:=o }):W Γ G (.rangeF x ps i) m Q:=by
 obtain⟨fn,f,A⟩:=f;exact⟨e,_,.rangeF q s f A v z y,u⟩
theorem kcD {b:C} {m:M} {Q:Ex->M->Prop} (h:WL Γ G b m Q):W Γ G (.loop b) m Q:=by
 obtain⟨e,f,h,d⟩:=h;exact⟨e,f,.loop h,d⟩
theorem S0 {b:C} {m:M} {Q:Ex->M->Prop} (h:W Γ G b m (g_ (fun j=>WL Γ G b j Q) Q)):WL Γ G b m Q:=by
 obtain⟨e,g,f,d⟩:=h
 cases e with
 | normal=>obtain⟨e,o,i,d⟩:=d;exact⟨e,o,.loopN f i,d⟩
 | exit id=>exact⟨_,g,.loopX f af,d⟩
 | ret=>exact⟨_,g,.loopX f af,d⟩
theorem yF {c:C} {m:M} {Q f:Ex->M->Prop} (h:W Γ G c m Q) (i: ∀e d,Q e d->f e d):W Γ G c m f:=by
 obtain⟨e,d,h,g⟩:=h;exact⟨e,d,h,i _ _ g⟩
theorem Vk {g:Nat} {args:List V} {fn:F} {r:V} (j:Γ g=some fn) (o:fn.raw=false)
 (h:W Γ G fn.body (.init args (fun _=>none) 0) (fun e m=>(∀id,e≠ .exit id)/\ ∃v,jk m.st fn.results=some v/\reify m.heap v=some r)):PC Γ G g args r:=by
 obtain⟨e,q,f,i,v,p,d⟩:=h;exact .pcall j o f i p d
end
def gO (E:List (Nat×Nat)) (t:Nat):Nat:=(E.lookup t).getD t
def nc (E:List (Nat×Nat)) (o:ROp):List Nat:=
 o.dst.toList++(match o.op with | .storeL _ (.s t) _=>[gO E t] | _=>[])
def opE (E:List (Nat×Nat)) (o:ROp):List (Nat×Nat):=
 match o.dst with
 | none=>E
 | some d=>match o.op with
   | .faddrL _ (.s x)=>(d,gO E x)::E
   | .iaddrAL _ _ (.s x) _=>(d,gO E x)::E
   | _=>(d,d)::E
def lL (W:List Nat):List (Nat×Nat)->List ROp->Bool
 | _,[]=>true
 | E,o::l=>(nc E o).all (W.contains ·)&&lL W (opE E o) l
def C.wrIn (W:List Nat):C->Bool
 | .skip | .ret | .exit _ | .ext _=>true
 | .region _ l=>lL W [] l
 | .regionD _ l=>lL W [] l
 | .seq a b=>a.wrIn W&&b.wrIn W
 | .cond _ a b=>a.wrIn W&&b.wrIn W
 | .block _ b=>b.wrIn W
 | .loop b=>b.wrIn W
 | .rangeF _ _ _=>true
 | .round _ _=>true
def AOp.noH:AOp->Bool
 | .allocH _ | .allocB | .mkfnT _ _ | .boxH _ _ | .bslice _ _ _ _ | .store _ _ _ | .mkslice _ _ _ _ _ | .appz _ _ _ _ _ | .append _ _ _ _ | .copy _ _ _ | .clear _ _ _ | .mkmap | .mapupd _ _ _ _=>false
 | .call r _ _=> !r
 | .fcall _ _=>false
 | _=>true
def C.noH:C->Bool
 | .skip | .ret | .exit _ | .ext _=>true
 | .region _ l=>l.all fun o=>o.op.noH
 | .regionD _ l=>l.all fun o=>o.op.noH
 | .seq a b=>a.noH&&b.noH
 | .cond _ a b=>a.noH&&b.noH
 | .block _ b=>b.noH
 | .loop b=>b.noH
 | .rangeF _ _ _=>false
 | .round _ _=>false
def g7 (W:List Nat) (s d:St):Prop:= ∀t,W.contains t=false->d.env t=s.env t/\d.loc t=s.loc t
theorem g7.refl (W:List Nat) (s:St):g7 W s s:=fun _ _=>⟨rfl,rfl⟩
theorem g7.trans {W:List Nat} {a b c:St} (e:g7 W a b) (f:g7 W b c):g7 W a c:=
 fun t d=>⟨(f t d).1.trans (e t d).1,(f t d).2.trans (e t d).2⟩
def jI (E:List (Nat×Nat)) (s:St):Prop:= ∀t,(∀b o,s.adr t=some (b,o)->gO E t=b)/\(s.adr t=none->s.env t= .lb->gO E t=t)
theorem x_ {E:List (Nat×Nat)} {s:St} {t b o:Nat} (h:jI E s) (d:bF s (.s t)=some (b,o)):gO E t=b:=by
 simp only[bF]at d;split at d
 ·rename_i r e;simp only[zA]at d;subst d;exact(h t).1 b o e
 ·rename_i g;split at d
  ·rename_i f;simp only[zA,dx]at d;obtain⟨rfl,_⟩:=d;exact(h t).2 g f
  ·simp at d
theorem ql (d x t:Nat) (E:List (Nat×Nat)):gO ((d,x)::E) t=if t=d then x else gO E t:=by
 simp only[gO,List.lookup]
 by_cases h:t=d
 ·subst h;simp
 ·simp[h,Ik.2 h]
theorem kbM {G:Nat->List T} {p:Nat} {s:St} {op:AOp} {e:Eff} (h:ao G p s op=some e) (d:lU op=false):e.adr=none:=by
 cases op
 all_goals(try(simp[lU]at d;done))
 all_goals simp only[ao,zC,zB,zA,cw]at h
 all_goals(try(repeat(first | (obtain⟨_,_,h⟩:=h) | split at h | (simp only[zB,zA]at h))))
 all_goals(try(repeat(first | (obtain⟨_,_,h⟩:=h) | split at h | (simp only[zB,zA]at h))))
 all_goals(try(repeat(first | (obtain⟨_,_,h⟩:=h) | split at h | (simp only[zB]at h))))
 all_goals(try(repeat(first | (obtain⟨_,_,h⟩:=h) | split at h | (simp only[zB]at h))))
 all_goals(try(simp at h;done))
 all_goals(try(obtain⟨_,_,rfl⟩:=h))
 all_goals(try subst h)
 all_goals rfl
theorem za {s:St} {x:Opd} {b o:Nat} (h:bF s x=some (b,o)): ∃t,x= .s t:=by
 cases x with
 | s t=>exact⟨t,rfl⟩
 | c v=>simp[bF]at h
 | g k=>simp[bF]at h
theorem W8 {G:Nat->List T} {p:Nat} {s:St} {d:Nat} {x:Opd} {e:Eff} {E:List (Nat×Nat)} (h:jI E s) (f:ao G p s (.faddrL d x)=some e):
 ∃t o,x= .s t/\e.adr=some (gO E t,o):=by
 simp only[ao,zC,zB,zA,cw]at f;obtain⟨b,o,g,cs,i,rfl⟩:=f;obtain⟨t,rfl⟩:=za g;exact⟨t,o+d,rfl,by rw[x_ h g]⟩
theorem V1 {G:Nat->List T} {p:Nat} {s:St} {len g:Nat} {x i:Opd} {e:Eff} {E:List (Nat×Nat)} (h:jI E s) (d:ao G p s (.iaddrAL len g x i)=some e):
 ∃t o,x= .s t/\e.adr=some (gO E t,o):=by
 simp only[ao,zC,zB,cw]at d;obtain⟨n,m,b,o,f,cs,j,d⟩:=d;obtain⟨t,rfl⟩:=za f;split at d
 ·simp only[zA]at d;subst d;exact⟨t,o+n.toNat*g,rfl,by rw[x_ h f]⟩
 ·simp at d
theorem Yq {G:Nat->List T} {p:Nat} {s:St} {op:AOp} {e:Eff} {E:List (Nat×Nat)} {b:Nat} {cs:List V} (h:jI E s) (d:ao G p s op=some e) (f:e.wloc=some (b,cs)):
 ∃n t v,op= .storeL n (.s t) v/\gO E t=b:=by
 by_cases i:op.wrL=true
 ·cases op<;>simp[AOp.wrL]at i
  rename_i n x v;simp only[ao,zC,zB,cw]at d;obtain⟨b',o,g,cs',y,z,r,m,q,d⟩:=d;split at d
  ·simp only[zB,zA]at d;obtain⟨j,u,rfl⟩:=d;simp only[zA,dx]at f;obtain⟨rfl,_⟩:=f;obtain⟨t,rfl⟩:=za g;exact⟨n,t,v,rfl,x_ h g⟩
  ·simp at d
 ·have:=yR d (al i);rw[this]at f;simp at f
theorem ZC {G:Nat->List T} {p:Nat} {s:St} {o:ROp} {e:Eff} {E:List (Nat×Nat)} {W:List Nat} (h:jI E s) (j:ao G p s o.op=some e) (X:(nc E o).all (W.contains ·)=true):
 g7 W s (s.apply o.dst e)/\jI (opE E o) (s.apply o.dst e):=by
 have A: ∀x∈nc E o,W.contains x=true:=al X
 constructor
 ·intro t r
  have q: ∀d,o.dst=some d->t≠d:=by
   rintro d q rfl;have:=A t (by simp[nc,q]);rw[this]at r;simp at r
  have H: ∀b cs,e.wloc=some (b,cs)->t≠b:=by
   rintro b cs g rfl;obtain⟨n,D,v,R,U⟩:=Yq h j g;have:=A t (by simp[nc,R,U]);rw[this]at r;simp at r
  have B:(match e.wloc with | some (b,cs)=>upd s.loc b (some cs) | none=>s.loc) t=s.loc t:=by
   cases S:e.wloc with
   | none=>rfl
   | some x=>obtain⟨b,cs⟩:=x;exact aP _ _ (H b cs S)
  cases i:o.dst with
  | none=>exact⟨rfl,B⟩
  | some d=>exact⟨aP _ _ (q d i),by simp only[St.apply];rw[aP _ _ (q d i)];exact B⟩
 ·intro t
  cases i:o.dst with
  | none=>simp only[opE,i];exact h t
  | some d=>
    by_cases m:t=d
    ·subst m;simp only[opE,i,St.apply,cV]
     by_cases f:lU o.op=true
     ·cases u:o.op<;>rw[u]at f<;>simp[lU]at f
      ·rw[u]at j;obtain⟨D,o',rfl,y⟩:=W8 h j;simp only[ql,y];exact⟨fun b o g=>by simp only[zA,dx]at g;exact g.1,af⟩
      ·rw[u]at j;obtain⟨D,o',rfl,y⟩:=V1 h j;simp only[ql,y];exact⟨fun b o g=>by simp only[zA,dx]at g;exact g.1,af⟩
     ·have O:=kbM j (al f);rw[O];refine⟨af,fun _ _=> ?_⟩;split
      ·rename_i z;rw[z]at f;simp[lU]at f
      ·rename_i z;rw[z]at f;simp[lU]at f
      ·simp[ql]
    ·have J:(s.apply (some d) e).adr t=s.adr t:=aP _ _ m;have M:(s.apply (some d) e).env t=s.env t:=aP _ _ m
     have N:gO (opE E o) t=gO E t:=by
      simp only[opE,i];split<;>simp[ql,m]
     rw[J,M,N];exact h t
theorem sq {s:St} {o:ROp} {v:V} {hp:List (Nat×O)} {E:List (Nat×Nat)} {W:List Nat} (h:jI E s) (e:v≠ .lb\/lU o.op=false) (y:(nc E o).all (W.contains ·)=true):
 g7 W s (s.apply o.dst { val:=v,hp:=hp })/\jI (opE E o) (s.apply o.dst { val:=v,hp:=hp }):=by
 have p: ∀x∈nc E o,W.contains x=true:=al y
 constructor
 ·intro t m
  have i: ∀d,o.dst=some d->t≠d:=by
   rintro d i rfl;have:=p t (by simp[nc,i]);rw[this]at m;simp at m
  cases f:o.dst with
  | none=>exact⟨rfl,rfl⟩
  | some d=>exact⟨aP _ _ (i d f),by simp only[St.apply];rw[aP _ _ (i d f)]⟩
 ·intro t
  cases f:o.dst with
  | none=>simp only[opE,f];exact h t
  | some d=>
    by_cases g:t=d
    ·subst g;simp only[St.apply,cV];refine⟨af,fun _ h=> ?_⟩;rcases e with e | e
     ·exact absurd h e
     ·simp only[opE,f];split
      ·rename_i j;rw[j]at e;simp[lU]at e
      ·rename_i j;rw[j]at e;simp[lU]at e
      ·simp[ql]
    ·have q:(s.apply (some d) { val:=v,hp:=hp }).adr t=s.adr t:=aP _ _ g;have r:(s.apply (some d) { val:=v,hp:=hp }).env t=s.env t:=aP _ _ g
     have u:gO (opE E o) t=gO E t:=by
      simp only[opE,f];split<;>simp[ql,g]
     rw[q,r,u];exact h t
theorem uu (W:List Nat) (s:St) (n:Nat):g7 W s (s.begin n)/\jI [] (s.begin n):=
 ⟨fun _ _=>⟨rfl,rfl⟩,fun t=>⟨fun b o h=>by simp[St.begin]at h,fun _ _=>by simp[gO]⟩⟩
def Vx (W:List Nat):Task->Out->Prop
 | .code c s,.code _ s'=>c.wrIn W=true->g7 W s s'
 | .loop c s,.code _ s'=>c.wrIn W=true->g7 W s s'
 | .ops _ _ l s,.ops s'=> ∀E,jI E s->lL W E l=true->g7 W s s'
 | _,_=>True
theorem ZA {Γ:Nat->Option F} {G:Nat->List T} {W:List Nat} {t:Task} {o:Out} (h:Big Γ G t o):Vx W t o:=by
 induction h with
 | skip=>intro _;exact .refl _ _
 | ret=>intro _;exact .refl _ _
 | exit=>intro _;exact .refl _ _
 | region h m=>intro i;exact(uu W _ _).1.trans (m [] (uu W _ _).2 i)
 | regionD h _ m=>intro i;exact(uu W _ _).1.trans (m [] (uu W _ _).2 i)
 | seqN q y u B=>
   intro i;simp only[C.wrIn,zF]at i
   exact(u i.1).trans (B i.2)
 | seqX q J u=>
   intro i;simp only[C.wrIn,zF]at i
   exact u i.1
 | cond Y h m=>
   rename_i t;intro i;simp only[C.wrIn,zF]at i
   cases t with
   | true=>exact m i.1
   | false=>exact m i.2
 | block h m=>intro i;exact m i
 | loop h m=>intro i;exact m i
 | loopN q y u B=>intro i;exact(u i).trans (B i)
 | loopX q J u=>intro i;exact u i
 | opsNil=>intro E _ _;exact .refl _ _
 | opsSkip i M h m=>
   intro E z j;simp only[lL,zF]at j;obtain⟨q,y⟩:=sq (v:=.undef) (hp:=[]) z (.inl af) j.1
   exact q.trans (m _ y j.2)
 | opsEff i M J h m=>
   intro E z j;simp only[lL,zF]at j;obtain⟨q,y⟩:=ZC z J j.1
   exact q.trans (m _ y j.2)
 | opsPure i M A R Ax hg Ec S AD Y hd h N m=>
   intro E z j;simp only[lL,zF]at j;obtain⟨q,y⟩:=sq z (.inr (by rw[A];rfl)) j.1
   exact q.trans (m _ y j.2)
 | opsRaw i M A R Ax hg Ec S Y h N m=>
   rename_i d p s s' o l f args fv g a b vs fn r h' n';intro E z j;simp only[lL,zF]at j;have U:jI E { s with heap:=h',nxt:=n' }:=z;obtain⟨q,y⟩:=sq (v:=r) (hp:=[]) U (.inr (by rw[A];rfl)) j.1;have X:g7 W s { s with heap:=h',nxt:=n' }:=fun _ _=>⟨rfl,rfl⟩
   exact X.trans (q.trans (m _ y j.2))
 | rangeF=>intro _;exact fun _ _=>⟨rfl,rfl⟩
 | opsYield i M A R AB S Ac Bi AT CL AF h iha ihb m=>
   rename_i d p s s' Z D o l f args k vs env env1 env' ps ps1 O ca cb bd1 H e;intro E z j;simp only[lL,zF]at j;have U:jI E { s with heap:=upd D.heap k (some (.loop env' O H e.toL)),nxt:=D.nxt }:=z;obtain⟨q,y⟩:=sq (v:=.t (.bool (decide (e=Ex.normal)))) (hp:=[]) U (.inr (by rw[A];rfl)) j.1;have X:g7 W s { s with heap:=upd D.heap k (some (.loop env' O H e.toL)),nxt:=D.nxt }:=fun _ _=>⟨rfl,rfl⟩
   exact X.trans (q.trans (m _ y j.2))
 | opsFresh i M A R Ax hg Ec S AD hd Y J h N m=>
   rename_i e;intro E z j;simp only[lL,zF]at j;obtain⟨Z,D,s3⟩:=rx J;obtain⟨ev,ea,el,ew,eh⟩:=e;simp only at Z D s3;subst Z;subst D;subst s3;obtain⟨q,y⟩:=sq z (.inr (by rw[A];rfl)) j.1
   exact q.trans (m _ y j.2)
 | pcall=>trivial
 | rcall=>trivial
 | rext=>trivial
 | pext=>trivial
def g9 (h h':ae):Prop:= ∀k,(h k=none->h' k=none)/\ ∀o,h k=some o->h' k=some o\/ ∃d rs b,o= .rows d rs b/\h' k=some (.rows d rs true)
theorem g9.refl (h:ae):g9 h h:=fun _=>⟨fun h=>h,fun _ h=> .inl h⟩
theorem g9.trans {a b c:ae} (e:g9 a b) (d:g9 b c):g9 a c:=fun k=>⟨fun h=>(d k).1 ((e k).1 h),fun o h=>by
 rcases(e k).2 o h with hq | ⟨sz,rs,z,rfl,hq⟩
 ·exact(d k).2 o hq
 ·rcases(d k).2 _ hq with hr | ⟨sz',rs',z',hb,hr⟩
  ·exact .inr ⟨sz,rs,z,rfl,hr⟩
  ·cases hb;exact .inr ⟨sz,rs,z,rfl,hr⟩⟩
theorem VX (h:ae) (l:List Nat):g9 h (bl h (freezes h l)):=by
 have i: ∀(l:List Nat) (g:ae),g9 h g->g9 h (bl g (freezes h l)):=by
  intro l
  induction l with
  | nil=>intro g d;exact d
  | cons x l f=>
    intro g d
    cases e:h x with
    | none=>simpa[freezes,e]using f g d
    | some o=>
      cases o with
      | rows p rs b=>
        have:freezes h (x::l)=(x,.rows p rs true)::freezes h l:=by simp[freezes,e]
        rw[this];simp only[bl];refine f _ fun k=> ?_
        by_cases j:k=x
        ·subst j;refine⟨fun q=>by simp[e]at q,fun o m=> ?_⟩;rw[e]at m;cases m;exact .inr ⟨p,rs,b,rfl,af⟩
        ·rw[aP _ _ j];exact d k
      | map es=>simpa[freezes,e]using f g d
      | loop _ _ _ _=>simpa[freezes,e]using f g d
      | raw _=>simpa[freezes,e]using f g d
      | dead=>simpa[freezes,e]using f g d
 exact i l h (.refl h)
theorem kcs {G:Nat->List T} {p:Nat} {s:St} {op:AOp} {e:Eff} (h:ao G p s op=some e) (d:op.noH=true):e.hp=[]:=by
 cases op
 all_goals(try(simp[AOp.noH]at d;done))
 all_goals simp only[ao,zC,zB,zA,cw]at h
 all_goals(try(repeat(first | (obtain⟨_,_,h⟩:=h) | split at h | (simp only[zB,zA]at h))))
 all_goals(try(repeat(first | (obtain⟨_,_,h⟩:=h) | split at h | (simp only[zB,zA]at h))))
 all_goals(try(repeat(first | (obtain⟨_,_,h⟩:=h) | split at h | (simp only[zB]at h))))
 all_goals(try(repeat(first | (obtain⟨_,_,h⟩:=h) | split at h | (simp only[zB]at h))))
 all_goals(try(simp at h;done))
 all_goals(try(obtain⟨_,_,rfl⟩:=h))
 all_goals(try subst h)
 all_goals rfl
def kcx:Task->Out->Prop
 | .code c s,.code _ s'=>c.noH=true->g9 s.heap s'.heap
 | .loop c s,.code _ s'=>c.noH=true->g9 s.heap s'.heap
 | .ops _ _ l s,.ops s'=>(l.all fun o=>o.op.noH)=true->g9 s.heap s'.heap
 | _,_=>True
theorem XZ {Γ:Nat->Option F} {G:Nat->List T} {t:Task} {o:Out} (h:Big Γ G t o):kcx t o:=by
 induction h with
 | skip=>intro _;exact .refl _
 | ret=>intro _;exact .refl _
 | exit=>intro _;exact .refl _
 | region h j=>intro e;exact j e
 | regionD h _ j=>intro e;exact j e
 | seqN E z m q=>
   intro e;simp only[C.noH,zF]at e
   exact(m e.1).trans (q e.2)
 | seqX E A m=>
   intro e;simp only[C.noH,zF]at e
   exact m e.1
 | cond H h j=>
   rename_i t;intro e;simp only[C.noH,zF]at e
   cases t with
   | true=>exact j e.1
   | false=>exact j e.2
 | block h j=>intro e;exact j e
 | loop h j=>intro e;exact j e
 | loopN E z m q=>intro e;exact(m e).trans (q e)
 | loopX E A m=>intro e;exact m e
 | opsNil=>intro _;exact .refl _
 | opsSkip e v h j=>
   intro i;simp only[ey,zF]at i
   exact j i.2
 | opsEff e v A h j=>
   intro i;simp only[ey,zF]at i;have:=j i.2;simp only[St.apply,kcs A i.1,bl]at this
   exact this
 | opsPure e v u B J N M D O H R h y j=>
   rename_i d p s s' o l f args fv g a b vs rs fn r;intro i;simp only[ey,zF]at i;have z:=j i.2;simp only[St.apply]at z;refine g9.trans ?_ z;split
   ·exact .refl _
   ·exact VX _ _
 | opsRaw e v u B J N M D H h y j=>
   intro i;simp only[ey,zF]at i;rw[u]at i
   simp[AOp.noH]at i
 | opsFresh e v u B J N M D O R H A h y j=>
   intro i;simp only[ey,zF]at i;rw[u]at i
   simp[AOp.noH]at i
 | rangeF=>intro e;simp[C.noH]at e
 | opsYield e v u B W D Z Bi Y CL X h S U j=>
   intro i;simp only[ey,zF]at i;rw[u]at i
   simp[AOp.noH]at i
 | pcall=>trivial
 | rcall=>trivial
 | rext=>trivial
 | pext=>trivial
theorem g9.none {h':ae} (h:g9 (fun _=>Option.none) h'):h'=fun _=>Option.none:=by
 funext k;exact(h k).1 rfl
def ovr (W:List Nat) (f g:Nat->Slot):Nat->Slot:=fun t=>{ v:=if W.contains t then(f t).v else(g t).v,box:=if W.contains t then(f t).box else(g t).box,ad:=(f t).ad }
theorem U_ (W:List Nat) (f g:Nat->Slot) (t:Nat):(ovr W f g t).v=if W.contains t then(f t).v else(g t).v:=rfl
theorem kaS (W:List Nat) (f g:Nat->Slot) (t:Nat):(ovr W f g t).box=if W.contains t then(f t).box else(g t).box:=rfl
theorem kcW {W:List Nat} {m d:M} (h:g7 W m.st d.st):d=⟨ovr W d.sl m.sl,d.used,d.heap,d.nxt,d.bas⟩:=by
 have:d.sl=ovr W d.sl m.sl:=by
  funext t
  cases e:W.contains t with
  | true=>simp only[ovr,e,aU]
  | false=>
    obtain⟨i,j⟩:=h t e;have g:(d.sl t).v=(m.sl t).v:=i;have f:(d.sl t).box=(m.sl t).box:=j;simp only[ovr,e,zG,aX,<- g,<- f]
 rw[<- this]
section
variable {Γ:Nat->Option F} {G:Nat->List T}
theorem Lr {b:C} {m:M} {Q:Ex->M->Prop} (W:List Nat) (v:b.wrIn W=true) (Inv:Nat->(Nat->Slot)->ae->Nat->Prop) (n:Nat)
 (t:Inv n m.sl m.heap m.nxt)
 (h: ∀n f u h k bs,Inv n f h k->Rg.W Γ G b ⟨ovr W f m.sl,u,h,k,bs⟩ (g_ (fun d=> ∃r,r<n/\Inv r d.sl d.heap d.nxt) Q)):WL Γ G b m Q:=by
 have i: ∀(n:Nat) (d:M),g7 W m.st d.st->Inv n d.sl d.heap d.nxt->WL Γ G b d Q:=by
  intro n
  induction n using Nat.strongRecOn with
  | _ n z=>
    intro d p hi;refine S0 ?_;have j:=h n d.sl d.used d.heap d.nxt d.bas hi;rw[<- kcW p]at j;obtain⟨e,q,o,g⟩:=j;refine⟨e,q,o,?_⟩
    cases e with
    | normal=>
      obtain⟨k,y,s⟩:=g
      exact z k y q (p.trans (ZA o v)) s
    | exit id=>exact g
    | ret=>exact g
 exact i n m (.refl _ _) t
theorem kc7 {b:C} {sl:Nat->Slot} {y:Nat->Bool} {nx m:Nat} {Q:Ex->M->Prop} (W:List Nat) (q:b.wrIn W=true) (p:b.noH=true) (Inv:Nat->(Nat->Slot)->Prop) (n:Nat)
 (o:Inv n sl)
 (h: ∀n f u k bs,Inv n f->Rg.W Γ G b ⟨ovr W f sl,u,fun _=>none,k,bs⟩ (g_ (fun t=> ∃i,i<n/\Inv i t.sl) Q)):WL Γ G b ⟨sl,y,fun _=>none,nx,m⟩ Q:=by
 refine Lr W q (fun n f hp _=>Inv n f/\hp=fun _=>none) n ⟨o,rfl⟩ ?_;rintro n f u hp k bs ⟨hi,rfl⟩;obtain⟨e,v,g,d⟩:=h n f u k bs hi;refine⟨e,v,g,?_⟩;have r:=g9.none (XZ g p)
 cases e with
 | normal=>obtain⟨k,s,j⟩:=d;exact⟨k,s,j,r⟩
 | exit id=>exact d
 | ret=>exact d
end
abbrev ci (n:Int):Opd:=.c (.t (.int .i64 n))
abbrev cb (b:Bool):Opd:=.c (.t (.bool b))
abbrev cf (f:Nat):Opd:=.c (.t (.fn f [] []))
abbrev o (d:Nat) (x:AOp):ROp:=⟨none,some d,x⟩
abbrev on (x:AOp):ROp:=⟨none,none,x⟩
abbrev og (g:Nat) (b:Bool) (d:Nat) (x:AOp):ROp:=⟨some (g,b),some d,x⟩
abbrev vi (n:Int):V:=.t (.int .i64 n)
abbrev vb (b:Bool):V:=.t (.bool b)
def bs (l:List UInt8):ByteArray:=⟨l.toArray⟩
abbrev oM (d x:Nat):ROp:=⟨none,some d,.mv (.s x)⟩
abbrev oI (d:Nat) (n:Int):ROp:=⟨none,some d,.mv (ci n)⟩
abbrev oB (d:Nat) (b:Bool):ROp:=⟨none,some d,.mv (cb b)⟩
abbrev oF (d k x:Nat):ROp:=⟨none,some d,.faddrL k (.s x)⟩
abbrev oG (d k x:Nat):ROp:=⟨none,some d,.faddr k (.s x)⟩
abbrev oL (d x:Nat):ROp:=⟨none,some d,.loadL false 1 (.s x)⟩
abbrev oK (d k x:Nat):ROp:=⟨none,some d,.loadL true k (.s x)⟩
abbrev oR (d x:Nat):ROp:=⟨none,some d,.load false 1 (.s x)⟩
abbrev oS (d k x:Nat):ROp:=⟨none,some d,.load true k (.s x)⟩
abbrev oA (d k x y:Nat):ROp:=⟨none,some d,.iaddrS k (.s x) (.s y)⟩
abbrev oN (d x:Nat):ROp:=⟨none,some d,.len (.s x)⟩
abbrev oT (d x:Nat):ROp:=⟨none,some d,.un .not (.s x)⟩
abbrev oX (d x k:Nat):ROp:=⟨none,some d,.extr (.s x) k⟩
abbrev oQ (d k x:Nat):ROp:=⟨none,some d,.boxL k (.s x)⟩
abbrev oV (d x y:Nat):ROp:=⟨none,some d,.pick (.s x) (cb true) (.s y)⟩
abbrev oW (d x y:Nat):ROp:=⟨none,some d,.pick (.s x) (.s y) (cb false)⟩
abbrev oC (d:Nat) (b:BinOp) (x y:Nat):ROp:=⟨none,some d,.bin b (.s x) (.s y)⟩
abbrev oD (d:Nat) (b:BinOp) (x:Nat) (n:Int):ROp:=⟨none,some d,.bin b (.s x) (ci n)⟩
abbrev oP (k x y:Nat):ROp:=⟨none,none,.storeL k (.s x) (.s y)⟩
abbrev oO (k x y:Nat):ROp:=⟨none,none,.store k (.s x) (.s y)⟩
abbrev gM (g:Nat) (b:Bool) (d x:Nat):ROp:=⟨some (g,b),some d,.mv (.s x)⟩
abbrev gF (g:Nat) (b:Bool) (d k x:Nat):ROp:=⟨some (g,b),some d,.faddrL k (.s x)⟩
abbrev gG (g:Nat) (b:Bool) (d k x:Nat):ROp:=⟨some (g,b),some d,.faddr k (.s x)⟩
abbrev gL (g:Nat) (b:Bool) (d x:Nat):ROp:=⟨some (g,b),some d,.loadL false 1 (.s x)⟩
abbrev gK (g:Nat) (b:Bool) (d k x:Nat):ROp:=⟨some (g,b),some d,.loadL true k (.s x)⟩
abbrev gR (g:Nat) (b:Bool) (d x:Nat):ROp:=⟨some (g,b),some d,.load false 1 (.s x)⟩
abbrev gN (g:Nat) (b:Bool) (d x:Nat):ROp:=⟨some (g,b),some d,.len (.s x)⟩
abbrev gT (g:Nat) (b:Bool) (d x:Nat):ROp:=⟨some (g,b),some d,.un .not (.s x)⟩
abbrev gI (g:Nat) (b:Bool) (d k x y:Nat):ROp:=⟨some (g,b),some d,.iaddrS k (.s x) (.s y)⟩
abbrev gC (g:Nat) (b:Bool) (d:Nat) (q:BinOp) (x y:Nat):ROp:=⟨some (g,b),some d,.bin q (.s x) (.s y)⟩
abbrev gD (g:Nat) (b:Bool) (d:Nat) (q:BinOp) (x:Nat) (n:Int):ROp:=⟨some (g,b),some d,.bin q (.s x) (ci n)⟩
abbrev rF (l:List ROp):C:=.region false l
abbrev rT (l:List ROp):C:=.region true l
abbrev zi:V:=.t (.int .i64 0)
abbrev zn:V:=.t .nils
abbrev zb:V:=.t (.bool false)
abbrev ze:V:=.t (.str (bs []))
theorem bu {n:Int} (h: -9223372036854775808<=n/\n<=9223372036854775807):IntKind.i64.wrap n=n:=by
 rw[IntKind.wrap_i64];omega
def Td:Slot:=⟨.undef,none,none⟩
def slots:List V->Nat->Nat->Slot
 | [],_=>fun _=>Td
 | v::l,i=>upd (slots l (i+1)) i ⟨v,none,none⟩
theorem MD: ∀(l:List V) (i t:Nat),slots l i (i+t)=⟨l.getD t .undef,none,none⟩
 | [],i,t=>by simp[slots,Td]
 | v::l,i,0=>by simp[slots]
 | v::l,i,t+1=>by
   simp only[slots];rw[aP _ _ aa,show i+(t+1)=i+1+t from aa,MD l (i+1) t];simp
theorem SH (args:List V) (h:ae) (n:Nat):M.init args h n=⟨slots args 0,fun _=>false,h,n,n⟩:=by
 simp only[M.init,mU,M.mk.injEq,nt]
 funext t
 have:=MD args 0 t;simpa using this.symm
section
variable (Γ:Nat->Option F) (G:Nat->List T)
def wpC:C->M->(Ex->M->Prop)->Prop
 | .skip,m,Q=>Q .normal m
 | .ret,m,Q=>Q .ret m
 | .exit id,m,Q=>Q (.exit id) m
 | .region d l,m,Q=>wpO Γ G d 0 l (m.begin l.length) (Q .normal)
 | .regionD ck l,m,Q=>wpO Γ G true 0 l (m.begin l.length) (fun f=>mI G f.st l ck=true/\Q .normal f)
 | .seq a b,m,Q=>wpC a m (g_ (fun f=>wpC b f Q) Q)
 | .cond c a b,m,Q=>match ib G m.st c with
   | none=>False
   | some t=>if t=true then wpC a m Q else wpC b m Q
 | .block id b,m,Q=>wpC b m (ot id Q)
 | .loop b,m,Q=>WL Γ G b m Q
 | .ext _,_,_=>False
 | .round _ _,_,_=>False
 | .rangeF x ps bd,m,Q=>match(evl G m.st x).bind cG with
   | none=>False
   | some (g,a,b)=> ∃r h' j,RC Γ G g (a++[.yl m.nxt]++b) (upd m.heap m.nxt (some (.loop (fun t=>(m.sl t).v) ps bd .ready))) (m.nxt+1) r h' j/\(∃fn,Γ g=some fn/\fn.raw=true)/\
     ∃env' i h o e,h' m.nxt=some (.loop env' i h o)/\o.ends=some e/\Q e { m with heap:=upd h' m.nxt (some .dead),nxt:=j }
def Fin (rs:List Res) (r:V) (e:Ex) (m:M):Prop:=(∀id,e≠ .exit id)/\ ∃v,jk m.st rs=some v/\reify m.heap v=some r
end
section
variable {Γ:Nat->Option F} {G:Nat->List T}
theorem yj {K d:M->Prop} {Q:Ex->M->Prop} (h: ∀m,K m->d m): ∀e m,g_ K Q e m->g_ d Q e m
 | .normal,m,hk=>h m hk
 | .exit _,_,hk=>hk
 | .ret,_,hk=>hk
theorem jO: ∀{c:C} {m:M} {Q:Ex->M->Prop},wpC Γ G c m Q->W Γ G c m Q
 | .skip,m,Q,h=>kcC h
 | .ret,m,Q,h=>Vm h
 | .exit id,m,Q,h=>kcu h
 | .region d l,m,Q,h=>kaD h
 | .regionD ck l,m,Q,h=>ZH h
 | .seq a b,m,Q,h=>Vn (yF (jO h) (yj fun _ h=>jO h))
 | .cond c a b,m,Q,h=>by
   simp only[wpC]at h;split at h
   ·exact h.elim
   ·rename_i t y;refine kcv y (fun i=> ?_) (fun i=> ?_)
    ·subst i;exact jO (al h)
    ·subst i;exact jO (al h)
 | .block id b,m,Q,h=>kc6 (jO h)
 | .loop b,m,Q,h=>kcD h
 | .ext _,_,_,h=>h.elim
 | .round _ _,_,_,h=>h.elim
 | .rangeF x ps bd,m,Q,h=>by
   simp only[wpC]at h;split at h
   ·exact h.elim
   ·rename_i g a b f;simp only[zB]at f;obtain⟨A,j,f⟩:=f;obtain⟨r,h',B,q,u,env',z,o,D,e,v,s,p⟩:=h;exact kc5 j f u q v s p
theorem kcw {g:Nat} {args:List V} {fn:F} {r:V} (d:Γ g=some fn) (e:fn.raw=false)
 (h:wpC Γ G fn.body ⟨slots args 0,fun _=>false,fun _=>none,0,0⟩ (Fin fn.results r)):PC Γ G g args r:=by
 refine Vk d e ?_;rw[SH];exact jO h
structure Wit (A B:Prop)where
 n:Nat
def eS (b:Bool) (A B:Prop) (_:Wit A B):Prop:=if b=true then A else B
@[go_sem]theorem zBQ (A B:Prop) (w:Wit A B):eS true A B w=A:=by simp[eS]
@[go_sem]theorem zBR (A B:Prop) (w:Wit A B):eS false A B w=B:=by simp[eS]
theorem bq {b:Bool} {A B:Prop} {w:Wit A B} (d:b=true->A) (e:b=false->B):eS b A B w:=by
 cases b
 ·simpa[eS]using e rfl
 ·simpa[eS]using d rfl
def qz (v:V) (A B:Prop) (w:Wit A B):Prop:=match v with
 | .t (.bool b)=>eS b A B w
 | _=>False
@[go_sem]theorem zBP (b:Bool) (A B:Prop) (w:Wit A B):qz (.t (.bool b)) A B w=eS b A B w:=rfl
def lK (v:V) (g:Bool) (A B:Prop) (w:Wit A B):Prop:=match v with
 | .t (.bool b)=>if g=true then eS b A B w else eS b B A ⟨0⟩
 | .undef=>B
 | _=>False
@[go_sem]theorem zzN (b:Bool) (A B:Prop) (w:Wit A B):lK (.t (.bool b)) true A B w=eS b A B w:=by simp[lK]
@[go_sem]theorem zzO (b:Bool) (A B:Prop) (w:Wit A B):lK (.t (.bool b)) false A B w=eS b B A ⟨0⟩:=by simp[lK]
@[go_sem]theorem zzM (g:Bool) (A B:Prop) (w:Wit A B):lK .undef g A B w=B:=rfl
structure Wit1 (A:Prop)where
 n:Nat
def SpN (P:Prop) (_:Wit1 P):Prop:=P
@[go_sem]theorem kcU (sl:Nat->Slot) (u:Nat->Bool) (h:ae) (n b t:Nat) (x y:C) (Q:Ex->M->Prop):
 wpC Γ G (.cond (.s t) x y) ⟨sl,u,h,n,b⟩ Q=qz (sl t).v (wpC Γ G x ⟨sl,u,h,n,b⟩ Q) (wpC Γ G y ⟨sl,u,h,n,b⟩ Q) ⟨0⟩:=by
 simp only[wpC,ib,evl,M.st,qz,eS];cases d:(sl t).v<;>simp only[]
 rename_i x;cases x<;>simp only[]
@[go_sem]theorem kcT (rs:List Res) (r:V) (sl:Nat->Slot) (u:Nat->Bool) (h:ae) (n b:Nat):
 Fin rs r .ret ⟨sl,u,h,n,b⟩= ∃v,jk (M.st ⟨sl,u,h,n,b⟩) rs=some v/\reify h v=some r:=by simp[Fin]
attribute [go_sem] M.free bl j0 evl cY eZ ib bF cG rd dW wr mQ mxT unT lenOf gJ V.cells V.scalar V.scalar1 V.scalar2 T.scalar jk eW reify toT1 toT T.norm mH dB jf eY V.isCell V.one
attribute [go_sem] ao
@[go_sem]theorem iI (d:Bool) (p:Nat) (e:Option Nat) (op:AOp) (l:List ROp) (sl:Nat->Slot) (u:Nat->Bool) (h:ae) (n b:Nat) (Q:M->Prop):
 wpO Γ G d p (⟨none,e,op⟩::l) ⟨sl,u,h,n,b⟩ Q=j0 Γ G d p ⟨sl,u,h,n,b⟩ e op (fun f=>wpO Γ G d (p+1) l f Q):=by
 simp only[wpO,cJ,aU]
@[go_sem]theorem WS (d:Bool) (p g:Nat) (w:Bool) (e:Option Nat) (op:AOp) (l:List ROp) (sl:Nat->Slot) (u:Nat->Bool) (h:ae) (n b:Nat) (Q:M->Prop):
 wpO Γ G d p (⟨some (g,w),e,op⟩::l) ⟨sl,u,h,n,b⟩ Q=lK (sl g).v w (j0 Γ G d p ⟨sl,u,h,n,b⟩ e op (fun f=>wpO Γ G d (p+1) l f Q))
  (M.free ⟨sl,u,h,n,b⟩ e {}=true/\wpO Γ G d (p+1) l (M.apply ⟨sl,u,h,n,b⟩ e {}) Q) ⟨0⟩:=by
 simp only[wpO,cJ,M.st,lK,eS]
 cases i:(sl g).v with
 | t x=>
   cases x with
   | bool b=>cases b<;>cases w<;>simp
   | _=>rfl
 | undef=>simp
 | _=>rfl
attribute [go_sem] slots List.map_cons List.map_nil Int.toNat_natCast Int.natCast_nonneg zJ Option.map_some Option.map_none List.length_map decide_eq_true_eq Int.ofNat_lt
attribute [go_sem] Bool.not_false Bool.true_and Bool.and_true Bool.not_true zG if_true if_false true_and and_true zC zD Option.bind_none zA reduceIte reduceCtorEq
attribute [go_sem] List.length_cons List.length_nil List.mapM_cons List.mapM_nil Option.pure_def List.getElem?_cons_zero List.getElem?_cons_succ List.drop_zero List.drop_succ_cons List.take_succ_cons List.take_zero List.cons_append List.nil_append List.append_nil
end
structure DS where
 n:Nat
 c:Nat
 v:Nat
 g:Nat
 b:Bool
abbrev D:=StateM DS
section
variable {α:Type} (K:Nat->V)
def nx (r:Nat):D Nat:=fun s=>(s.n % r,{ s with n:=s.n/ r })
def nn:D Nat:=do
 match <- nx 16 with
 | 12=>nx 64
 | 13=>nx 1024
 | 14=>nx 1048576
 | 15=>nx 18446744073709551616
 | k=>pure k
def bb:D Bool:=do pure ((<- nx 2)==1)
def zz:D Int:=do
 let k<- nn
 pure (if k % 2=0 then Int.ofNat (k/ 2)else Int.negSucc (k/ 2))
def rp (x:D α):Nat->D (List α)
 | 0=>pure []
 | k+1=>do
   let a<- x
   let l<- rp x k
   pure (a::l)
def ls (x:D α):D (List α):=do rp x (<- nn)
def kv:D V:=do pure (K (<- nn))
def od:D Opd:=do
 let s<- get
 let k<- nx (s.v+10)
 if k<s.v then pure (.s k)else match k-s.v with
 | 0=>pure (.s s.c)
 | 1=>pure (.s (s.c-1))
 | 2=>pure (.s (s.c-2))
 | 3=>pure (.s (s.c-3))
 | 4=>do pure (.s (<- nx 1024))
 | 5=>do pure (ci (<- zz))
 | 6=>do pure (cb (<- bb))
 | 7=>do pure (.c (<- kv K))
 | 8=>do pure (cf (<- nx 1024))
 | _=>do pure (.g (<- nn))
def oo:D (Option Opd):=do if(<- bb)then pure (some (<- od K))else pure none
def dt:Nat->D (Option Nat)
 | 0=>pure none
 | 1=>fun s=>(some (s.c+1),{ s with c:=s.c+1 })
 | _=>do
   let k<- nx ((<- get).v+1)
   if k<(<- get).v then pure (some k)else do
    let k<- nx 1024
    modify fun s=>{ s with c:=k }
    pure (some k)
def gd:Nat->D (Option (Nat×Bool))
 | 0=>pure none
 | 1=>do
   let s<- get
   pure (some (s.g,s.b))
 | 2=>do
   modify fun s=>{ s with g:=s.c,b:=false }
   pure (some ((<- get).g,false))
 | 3=>do
   modify fun s=>{ s with g:=s.c,b:=true }
   pure (some ((<- get).g,true))
 | _=>do
   let k<- nx 1024
   let b<- bb
   modify fun s=>{ s with g:=k,b:=b }
   pure (some (k,b))
def bop:D BinOp:=do pure ([BinOp.add,.eql,.lss,.neq,.gtr,.geq,.leq,.sub,.mul,.quo,.rem,.and,.or,.xor,.shl,.shr,.andNot].getD (<- nx 17) .add)
def aop:Nat->D AOp
 | 0=>do pure (.mv (<- od K))
 | 1=>do pure (.pick (<- od K) (<- od K) (<- od K))
 | 2=>do pure (.allocL (<- ls (kv K)))
 | 3=>do pure (.allocH (<- ls (kv K)))
 | 4=>pure .allocB
 | 5=>do pure (.boxL (<- nn) (<- od K))
 | 6=>do pure (.boxH (<- nn) (<- od K))
 | 7=>do pure (.build (<- ls (kv K)) (<- ls (do pure (<- nn,<- nn,<- od K))))
 | 8=>do pure (.bslice (<- nn) (<- nn) (<- ls (kv K)) (<- ls (do pure (<- nn,<- od K))))
 | 9=>do pure (.loadL (<- bb) (<- nn) (<- od K))
 | 10=>do pure (.load (<- bb) (<- nn) (<- od K))
 | 11=>do pure (.storeL (<- nn) (<- od K) (<- od K))
 | 12=>do pure (.store (<- nn) (<- od K) (<- od K))
 | 13=>do pure (.nilchk (<- od K))
 | 14=>do pure (.bin (<- bop) (<- od K) (<- od K))
 | 15=>do pure (.eqb (<- bb) (<- od K) (<- od K))
 | 16=>do pure (.eqa (<- bb) (<- ls nn) (<- od K) (<- od K))
 | 17=>do pure (.mx (<- bb) (<- od K) (<- od K))
 | 18=>do pure (.un ([UnOp.not,.neg,.xor].getD (<- nx 3) .not) (<- od K))
 | 19=>do pure (.conv ([IntKind.i64,.u64,.u8,.i32,.u32].getD (<- nx 5) .i64) (<- od K))
 | 20=>do pure (.mkfn (<- nn) (<- ls (od K)) (<- ls (od K)))
 | 21=>do pure (.mkfnT (<- nn) (<- od K))
 | 22=>do pure (.mkslice (<- nn) (<- nn) (<- ls (kv K)) (<- od K) (<- od K))
 | 23=>do pure (.slice (<- nn) (<- od K) (<- oo K) (<- oo K) (<- oo K))
 | 24=>do pure (.slstr (<- od K) (<- oo K) (<- oo K))
 | 25=>do pure (.faddrL (<- nn) (<- od K))
 | 26=>do pure (.faddr (<- nn) (<- od K))
 | 27=>do pure (.field (<- bb) (<- nn) (<- nn) (<- od K))
 | 28=>do pure (.iaddrS (<- nn) (<- od K) (<- od K))
 | 29=>do pure (.iaddrAL (<- nn) (<- nn) (<- od K) (<- od K))
 | 30=>do pure (.iaddrA (<- nn) (<- nn) (<- od K) (<- od K))
 | 31=>do pure (.idxA (<- bb) (<- nn) (<- nn) (<- od K) (<- od K))
 | 32=>do pure (.idxS (<- od K) (<- od K))
 | 33=>do pure (.bstr (<- od K))
 | 34=>do pure (.extr (<- od K) (<- nn))
 | 35=>do pure (.len (<- od K))
 | 36=>do pure (.slen (<- od K))
 | 37=>do pure (.lenA (<- nn))
 | 38=>do pure (.append (<- nn) (<- nn) (<- od K) (<- od K))
 | 39=>do pure (.copy (<- nn) (<- od K) (<- od K))
 | 40=>do pure (.clear (<- nn) (<- ls (kv K)) (<- od K))
 | 41=>pure .mkmap
 | 42=>do pure (.lookup (<- nn) (<- kv K) (<- bb) (<- od K) (<- od K))
 | 43=>do pure (.mapupd (<- nn) (<- od K) (<- od K) (<- od K))
 | 44=>do pure (.call (<- bb) (<- od K) (<- ls (od K)))
 | 45=>do pure (.fcall (<- od K) (<- ls (od K)))
 | 46=>do pure (.loadL false 1 (<- od K))
 | 47=>do pure (.load false 1 (<- od K))
 | 48=>do pure (.pick (<- od K) (cb true) (<- od K))
 | 49=>do pure (.pick (<- od K) (<- od K) (cb false))
 | 50=>do pure (.call false (cf (<- nx 1024)) (<- ls (od K)))
 | 51=>do
   let s<- get
   pure (.mv (.s s.c))
 | 52=>do
   let s<- get
   pure (.loadL false 1 (.s s.c))
 | 54=>do pure (.capN (<- od K))
 | 55=>pure .stop
 | 56=>do pure (.appz (<- nn) (<- nn) (<- ls (kv K)) (<- od K) (<- od K))
 | _=>do
   let s<- get
   pure (.un .not (.s s.c))
def rop:D ROp:=do
 let k<- nx 64
 let k<- if k=63 then nx 1024 else pure ([60,120,171,74,112,85,111,254,292,110,88,107,145,11,95,108,109,86,240,70,122,445,113,287,69,265,266,134,129,290,125,275,268,68,67,625,293,73,98,104,600,94,65,420,170,12,146,291,154,155,126,166,167,429,253,609,80,89,828,249,829,130,123].getD k 0)
 let g<- gd (k/ 180)
 let a<- aop K (k % 60)
 let d<- dt (k/ 60 % 3)
 pure ⟨g,d,a⟩
def r6:D (List ROp):=ls (rop K)
def cod:Nat->D C
 | 0=>pure .skip
 | f+1=>do
   match <- nx 16 with
   | 0=>do pure (.seq (<- cod f) (<- cod f))
   | 1=>do pure (.region false (<- r6 K))
   | 2=>do pure (.cond (<- od K) (<- cod f) (<- cod f))
   | 3=>do pure (.block (<- nn) (<- cod f))
   | 4=>do pure (.loop (<- cod f))
   | 5=>do pure (.exit (<- nn))
   | 6=>pure .ret
   | 7=>pure .skip
   | 8=>do pure (.region true (<- r6 K))
   | 9=>do pure (.regionD (<- ls (do pure (<- nn,<- nn))) (<- r6 K))
   | 10=>do pure (.rangeF (<- od K) (<- ls nn) (<- cod f))
   | 11=>do pure (.round (<- cod f) (<- cod f))
   | 12=>do pure (.seq (.region false (<- r6 K)) (<- cod f))
   | 13=>do
     let s<- get
     pure (.cond (.s s.c) .skip (.exit (<- nn)))
   | 14=>do pure (.seq (.seq (.region false (<- r6 K)) (<- cod f)) (<- cod f))
   | _=>do
     let s<- get
     pure (.cond (.s s.c) (<- cod f) .skip)
def rs:D Res:=do
 match <- nx 3 with
 | 0=>do pure (.s (<- nn))
 | 1=>do pure (.l (<- nn) (<- bb) (<- nn))
 | _=>do pure (.h (<- nn) (<- bb) (<- nn))
def U3:D F:=do
 let v<- nn
 modify fun s=>{ s with v:=v }
 pure ⟨<- nn,<- bb,<- ls rs,<- cod K 1000⟩
def cde:D C:=do
 let v<- nn
 modify fun s=>{ s with v:=v }
 cod K 1000
end
def dF (K:Nat->V) (n:Nat):F:=(U3 K ⟨n,0,0,0,false⟩).1
def dC (K:Nat->V) (n:Nat):C:=(cde K ⟨n,0,0,0,false⟩).1
abbrev KS (K:Nat->V):Prop:=True/\K 0=(.t (.str (bs [])))/\K 1=(.t (.int .i64 0))/\K 2=(.t .nils)/\K 3=(.t (.bool false))/\K 4=(.t .nilf)/\K 5=(.agg [])/\K 6=(.t (.int .u8 33))/\K 7=(.t (.int .u8 126))/\K 8=(.t (.str (bs [116])))/\K 9=(.t (.str (bs [116,46,105])))/\K 10=(.t (.str (bs [77])))/\K 11=(.t (.str (bs [111])))/\K 12=(.t .nilp)/\K 13=(.t (.str (bs [47])))/\K 14=(.t (.str (bs [32])))/\K 15=(.t (.str (bs [59])))/\K 16=(.t (.int .u64 8))/\K 17=(.t (.int .u8 0))/\K 18=(.t .nilm)
inductive Is {α:Type}:α->α->Prop
 | r (a:α):Is a a
abbrev EF (n:Nat):=(c:F)->(h: ∀K,KS K->Is (dF K n) c:=by intro K h;cbv;(try simp only[h,Int.reduceOfNat,Int.reduceNegSucc]);exact .r _)->F
abbrev EC (n:Nat):=(c:C)->(h: ∀K,KS K->Is (dC K n) c:=by intro K h;cbv;(try simp only[h,Int.reduceOfNat,Int.reduceNegSucc]);exact .r _)->C
end Rg
end
