/- Part of the proof of the laws of the package relyguardlaw36: an abstract machine for the program's functions, what they compute, and that the machine is the program's. No condition. (RgU RgV) -/
import Derived.Scope
import Derived.Test.YtaiokglcgiemnaaGreatDoorPartAL
section
namespace Rg
open Go
section
variable {F:Fence} {n:Nat} {P:Program} {Q:Exit->Act->World->Prop} {b:Frame} {a:Act} {k:List Item} {cs:List Frame} {w:World} {c:Code}
theorem stepR_scope:step P (lone (b.atR a (.code (.scope c)::k)) cs w)= .next (lone (b.atR a (.code c:: .inScope c::k)) cs w):=
 step_lone_go (by simp[stepG,stepG.exec,Frame.atR])
theorem stepR_inScope:step P (lone (b.atR a (.inScope c::k)) cs w)= .next (lone (b.atR a k) cs w):=
 step_lone_go (by simp[stepG,stepG.exec,Frame.atR])
theorem wpIn_scope (h:c.wpIn F n P (Exit.noGoto Q) a w):(Code.scope c).wpIn F n P Q a w:=by
 intro b k cs hro hb hr
 have h0:(lone (b.atR a (.code (.scope c)::k)) cs w).fenced P F:=fenced_calm hb hr rfl
 obtain⟨e,a₁,w₁,hq,harr⟩:=h b (.inScope c::k) cs hro hb hr
 cases e with
 | normal=>exact⟨.normal,a₁,w₁,hq,.head h0 stepR_scope (StepsIn.trans harr (.one (fenced_calm hb hr rfl) stepR_inScope))⟩
 | exit id=>
   have hx:exitTo id (.inScope c::k)=exitTo id k:=by simp[exitTo]
   exact⟨.exit id,a₁,w₁,hq,fun k' hk=> .head h0 stepR_scope (harr.1 k' (by rw[hx];exact hk)),
    fun hr' hk=>let⟨k₁,h1,h2⟩:=harr.2 hr' (by rw[hx];exact hk);⟨k₁,h1,.head h0 stepR_scope h2⟩⟩
 | goto l=>exact hq.elim
 | ret=>exact⟨_,a₁,w₁,hq,.of_steps (.one h0 stepR_scope) harr⟩
 | panic ch=>exact⟨_,a₁,w₁,hq,.of_steps (.one h0 stepR_scope) harr⟩
 | outgrown=>exact⟨_,a₁,w₁,hq,.of_steps (.one h0 stepR_scope) harr⟩
end
def C.noRange:C->Bool
 | .seq a b=>a.noRange&&b.noRange
 | .cond _ a b=>a.noRange&&b.noRange
 | .block _ b=>b.noRange
 | .loop b=>b.noRange
 | .rangeF _ _ _=>false
 | .round a b=>a.noRange&&b.noRange
 | _=>true
def compRange (ns:Nat) (sk:Option C) (x:Option Opd) (b:Option C) (ps:Array Nat):Option C:=
 match sk,x,b with
 | some a,some x,some b=>if a.noRange&&b.noRange&&ps.toList.all (fun t=>decide (t<ns))then some (.rangeF x ps.toList (.round a b))else none
 | _,_,_=>none
section
variable {ns:Nat} {sk:Option C} {x:Option Opd} {b:Option C} {ps:Array Nat}
theorem compRange_some {y:C} (h:compRange ns sk x b ps=some y): ∃x' b' a',x=some x'/\b=some b'/\y= .rangeF x' ps.toList (.round a' b')/\sk=some a'/\a'.noRange=true/\b'.noRange=true/\ ∀t∈ps.toList,t<ns:=by
 unfold compRange at h
 split at h
 ·rename_i a' x' b'
  split at h
  ·rename_i hc
   simp only[Bool.and_eq_true,List.all_eq_true,decide_eq_true_eq]at hc
   simp only[Option.some.injEq]at h
   exact⟨x',b',a',rfl,rfl,h.symm,rfl,hc.1.1,hc.1.2,hc.2⟩
  ·simp at h
 ·simp at h
@[simp]theorem compRange_skip:(compRange ns sk x b ps=some .skip)=False:=eq_false fun h=>by obtain⟨_,_,_,_,_,h,_⟩:=compRange_some h;cases h
@[simp]theorem compRange_ret:(compRange ns sk x b ps=some .ret)=False:=eq_false fun h=>by obtain⟨_,_,_,_,_,h,_⟩:=compRange_some h;cases h
@[simp]theorem compRange_exit {id:Nat}:(compRange ns sk x b ps=some (.exit id))=False:=eq_false fun h=>by obtain⟨_,_,_,_,_,h,_⟩:=compRange_some h;cases h
@[simp]theorem compRange_seq {u v:C}:(compRange ns sk x b ps=some (.seq u v))=False:=eq_false fun h=>by obtain⟨_,_,_,_,_,h,_⟩:=compRange_some h;cases h
@[simp]theorem compRange_cond {c:Opd} {u v:C}:(compRange ns sk x b ps=some (.cond c u v))=False:=eq_false fun h=>by obtain⟨_,_,_,_,_,h,_⟩:=compRange_some h;cases h
@[simp]theorem compRange_block {id:Nat} {u:C}:(compRange ns sk x b ps=some (.block id u))=False:=eq_false fun h=>by obtain⟨_,_,_,_,_,h,_⟩:=compRange_some h;cases h
@[simp]theorem compRange_loop {u:C}:(compRange ns sk x b ps=some (.loop u))=False:=eq_false fun h=>by obtain⟨_,_,_,_,_,h,_⟩:=compRange_some h;cases h
@[simp]theorem compRange_region {d:Bool} {l:List ROp}:(compRange ns sk x b ps=some (.region d l))=False:=eq_false fun h=>by obtain⟨_,_,_,_,_,h,_⟩:=compRange_some h;cases h
@[simp]theorem compRange_ext {e:Ext}:(compRange ns sk x b ps=some (.ext e))=False:=eq_false fun h=>by obtain⟨_,_,_,_,_,h,_⟩:=compRange_some h;cases h
end
def compDraw (ops:Array Oper) (l:List ROp):Option C:=
 if drawOk ops l then some (.region true l)
 else if drawOkD (pairsD ops l) ops l&&stableB (pairsD ops l) l then some (.regionD (pairsD ops l) l)else none
section
variable {ops:Array Oper} {l:List ROp}
theorem compDraw_some {y:C} (h:compDraw ops l=some y):(y= .region true l/\drawOk ops l=true)\/ ∃ck,y= .regionD ck l/\drawOkD ck ops l=true/\stableB ck l=true:=by
 unfold compDraw at h
 split at h
 ·rename_i hd
  simp only[Option.some.injEq]at h
  exact .inl ⟨h.symm,hd⟩
 ·split at h
  ·rename_i hd
   simp only[Bool.and_eq_true]at hd
   simp only[Option.some.injEq]at h
   exact .inr ⟨_,h.symm,hd⟩
  ·simp at h
@[simp]theorem compDraw_skip:(compDraw ops l=some .skip)=False:=eq_false fun h=>by rcases compDraw_some h with⟨h,_⟩ | ⟨_,h,_⟩<;>cases h
@[simp]theorem compDraw_ret:(compDraw ops l=some .ret)=False:=eq_false fun h=>by rcases compDraw_some h with⟨h,_⟩ | ⟨_,h,_⟩<;>cases h
@[simp]theorem compDraw_exit {id:Nat}:(compDraw ops l=some (.exit id))=False:=eq_false fun h=>by rcases compDraw_some h with⟨h,_⟩ | ⟨_,h,_⟩<;>cases h
@[simp]theorem compDraw_seq {u v:C}:(compDraw ops l=some (.seq u v))=False:=eq_false fun h=>by rcases compDraw_some h with⟨h,_⟩ | ⟨_,h,_⟩<;>cases h
@[simp]theorem compDraw_cond {c:Opd} {u v:C}:(compDraw ops l=some (.cond c u v))=False:=eq_false fun h=>by rcases compDraw_some h with⟨h,_⟩ | ⟨_,h,_⟩<;>cases h
@[simp]theorem compDraw_block {id:Nat} {u:C}:(compDraw ops l=some (.block id u))=False:=eq_false fun h=>by rcases compDraw_some h with⟨h,_⟩ | ⟨_,h,_⟩<;>cases h
@[simp]theorem compDraw_loop {u:C}:(compDraw ops l=some (.loop u))=False:=eq_false fun h=>by rcases compDraw_some h with⟨h,_⟩ | ⟨_,h,_⟩<;>cases h
@[simp]theorem compDraw_ext {e:Ext}:(compDraw ops l=some (.ext e))=False:=eq_false fun h=>by rcases compDraw_some h with⟨h,_⟩ | ⟨_,h,_⟩<;>cases h
@[simp]theorem compDraw_range {x:Opd} {ps:List Nat} {b:C}:(compDraw ops l=some (.rangeF x ps b))=False:=eq_false fun h=>by rcases compDraw_some h with⟨h,_⟩ | ⟨_,h,_⟩<;>cases h
end
section
variable (P:Program) (I:Inv)
def compC (rw:Raws) (L:List Nat) (ns:Nat):Code->Option C
 | .skip=>some .skip
 | .region _ ops draw=>do
   let l<- compOps P I rw L ns ops [] ops.toList
   if draw then compDraw ops l else some (.region false l)
 | .seq a b=>do
   let a<- compC rw L ns a
   let b<- compC rw L ns b
   some (.seq a b)
 | .cond c a b=>do
   let c<- opd I c
   let a<- compC rw L ns a
   let b<- compC rw L ns b
   some (.cond c a b)
 | .block id b=>do
   let b<- compC rw L ns b
   some (.block id b)
 | .loop b=>do
   let b<- compC rw L ns b
   some (.loop b)
 | .exit id=>some (.exit id)
 | .ret=>some .ret
 | .rangeFunc g ps a b=>compRange ns (compC rw L ns a) (opd I g) (compC rw L ns b) ps
 | .label _=>some .skip
 | .scope b=>do
   let b<- compC rw L ns b
   some (.seq .skip b)
 | _=>none
def compRes (L:List Nat):ResultVar->Option Res
 | .tmp t=>some (.s t)
 | .cell a ty=>do
   let(ag,n)<- typ P ty
   if L.contains a then some (.l a ag n)else some (.h a ag n)
def compF (rw:Raws) (L:List Nat) (raw:Bool) (rf:Func):Option F:=do
 let body<- rf.body
 let b<- compC P I rw L rf.ntmps body
 let rs<- rf.results.toList.mapM (compRes P L)
 if (rf.name == "runtime.NumGoroutine") then none else some { nslots := rf.ntmps, raw := raw, results := rs, body := b }
end
section
variable {P:Program} {I:Inv} {rw:Raws} {L:List Nat} {k:Nat} {rc:Code}
theorem comp_ext {e:Ext} (h:compC P I rw L k rc=some (.ext e)):False:=by
 cases rc<;>simp only[compC,Option.bind_eq_bind,Option.bind_eq_some_iff]at h
 all_goals(first | (cases h;done) | skip)
 ·obtain⟨l,_,h⟩:=h
  split at h
  ·simp at h
  ·cases h
 all_goals((try(simp at h;done));(try(obtain⟨_,_,h⟩:=h));(try(obtain⟨_,_,h⟩:=h));(try(obtain⟨_,_,h⟩:=h));(try(simp at h;done)))
theorem inv_skip (h:compC P I rw L k rc=some .skip):rc= .skip\/ ∃l,rc= .label l:=by
 cases rc<;>simp[compC,Option.bind_eq_some_iff]at h
 ·exact .inl rfl
 ·obtain⟨l,_,h⟩:=h
  split at h
  ·simp at h
  ·simp at h
 ·exact .inr ⟨_,rfl⟩
theorem inv_ret (h:compC P I rw L k rc=some .ret):rc= .ret:=by
 cases rc<;>simp[compC,Option.bind_eq_some_iff]at h
 ·obtain⟨l,_,h⟩:=h
  split at h
  ·simp at h
  ·simp at h
 ·rfl
theorem inv_exit {id:Nat} (h:compC P I rw L k rc=some (.exit id)):rc= .exit id:=by
 cases rc<;>simp[compC,Option.bind_eq_some_iff]at h
 ·obtain⟨l,_,h⟩:=h
  split at h
  ·simp at h
  ·simp at h
 ·subst h;rfl
theorem inv_seq {a b:C} (h:compC P I rw L k rc=some (.seq a b)):
 (∃x y,rc= .seq x y/\compC P I rw L k x=some a/\compC P I rw L k y=some b)\/ ∃x,rc= .scope x/\a= .skip/\compC P I rw L k x=some b:=by
 cases rc<;>simp[compC,Option.bind_eq_some_iff]at h
 ·obtain⟨l,_,h⟩:=h
  split at h
  ·simp at h
  ·simp at h
 ·rename_i x y
  exact .inl ⟨x,y,rfl,h.1,h.2⟩
 ·rename_i x
  exact .inr ⟨x,rfl,h.2.symm,h.1⟩
theorem inv_cond {c:Opd} {a b:C} (h:compC P I rw L k rc=some (.cond c a b)): ∃c0 x y,rc= .cond c0 x y/\opd I c0=some c/\compC P I rw L k x=some a/\compC P I rw L k y=some b:=by
 cases rc<;>simp[compC,Option.bind_eq_some_iff]at h
 ·obtain⟨l,_,h⟩:=h
  split at h
  ·simp at h
  ·simp at h
 ·rename_i c0 x y
  obtain⟨c',h1,a',h2,b',h3,rfl,rfl,rfl⟩:=h
  exact⟨c0,x,y,rfl,h1,h2,h3⟩
theorem inv_block {id:Nat} {b:C} (h:compC P I rw L k rc=some (.block id b)): ∃x,rc= .block id x/\compC P I rw L k x=some b:=by
 cases rc<;>simp[compC,Option.bind_eq_some_iff]at h
 ·obtain⟨l,_,h⟩:=h
  split at h
  ·simp at h
  ·simp at h
 ·rename_i id' x
  obtain⟨h1,rfl⟩:=h
  exact⟨x,rfl,h1⟩
theorem inv_loop {b:C} (h:compC P I rw L k rc=some (.loop b)): ∃x,rc= .loop x/\compC P I rw L k x=some b:=by
 cases rc<;>simp[compC,Option.bind_eq_some_iff]at h
 ·obtain⟨l,_,h⟩:=h
  split at h
  ·simp at h
  ·simp at h
 ·rename_i x
  exact⟨x,rfl,h⟩
theorem inv_region {d:Bool} {l:List ROp} (h:compC P I rw L k rc=some (.region d l)): ∃id ops,rc= .region id ops d/\compOps P I rw L k ops [] ops.toList=some l/\(d=true->drawOk ops l=true):=by
 cases rc<;>simp[compC,Option.bind_eq_some_iff]at h
 rename_i id ops draw
 obtain⟨l',hl,h⟩:=h
 split at h
 ·rename_i hd
  rcases compDraw_some h with⟨h,hok⟩ | ⟨_,h,_⟩
  ·simp only[C.region.injEq]at h
   obtain⟨rfl,rfl⟩:=h
   exact⟨id,ops,by rw[hd],hl,fun _=>hok⟩
  ·cases h
 ·rename_i hd
  simp only[Option.some.injEq,C.region.injEq]at h
  obtain⟨rfl,rfl⟩:=h
  exact⟨id,ops,by cases draw<;>simp_all,hl,by simp⟩
theorem inv_regionD {ck:List (Nat×Nat)} {l:List ROp} (h:compC P I rw L k rc=some (.regionD ck l)):
 ∃id ops,rc= .region id ops true/\compOps P I rw L k ops [] ops.toList=some l/\drawOkD ck ops l=true/\stableB ck l=true:=by
 cases rc
 case region id ops draw=>
  simp only[compC,Option.bind_eq_bind,Option.bind_eq_some_iff]at h
  obtain⟨l',hl,h⟩:=h
  split at h
  ·rename_i hd
   rcases compDraw_some h with⟨h,_⟩ | ⟨ck',h,hok⟩
   ·cases h
   ·cases h
    exact⟨id,ops,by rw[hd],hl,hok⟩
  ·cases h
 case rangeFunc=>
  simp only[compC]at h
  obtain⟨_,_,_,_,_,h,_⟩:=compRange_some h;cases h
 all_goals simp[compC,Option.bind_eq_some_iff]at h
theorem inv_range {x:Opd} {ps:List Nat} {b:C} (h:compC P I rw L k rc=some (.rangeF x ps b)):
 ∃f aps z y ca cb,rc= .rangeFunc f aps z y/\opd I f=some x/\b= .round ca cb/\compC P I rw L k z=some ca/\compC P I rw L k y=some cb/\ca.noRange=true/\cb.noRange=true/\(∀t∈aps.toList,t<k)/\ps=aps.toList:=by
 cases rc<;>simp[compC,Option.bind_eq_some_iff]at h
 ·obtain⟨l,_,h⟩:=h
  split at h
  ·simp at h
  ·simp at h
 ·rename_i f aps asg y
  obtain⟨x',b',a',h1,h2,h3,h4,h5,h6,h7⟩:=compRange_some h
  cases h3
  exact⟨f,aps,asg,y,a',b',rfl,h1,rfl,h4,h2,h5,h6,h7,rfl⟩
end
def ExtOK (P:Program) (N:Nam) (g:Nat) (e:Ext):Prop:=
 (∃rf,Real P (N.nm g) rf)/\(∀args H n r H' n',extSem e args H n=some (r,H',n')->RawOK P N g args H n r H' n')/\ ∀args r,extPure e args=some r->PureOK P N g args r
def TableOK (P:Program) (I:Inv) (N:Nam) (Γ:Nat->Option F):Prop:=
 ∀g fn,Γ g=some fn->(∃rf rw L raw,P.funcs[N.nm g]? =some rf/\compF P I rw L raw rf=some fn)\/ ∃e,fn.body= .ext e/\ExtOK P N g e
theorem bldAdd_frame {H H':Nat->Option O} {n n' k:Nat} {l:List UInt8} (h:bldAdd H n k l=some (H',n')):n<=n'/\ ∀q,q<n->H q=none->H' q=none:=by
 unfold bldAdd at h
 split at h
 ·rename_i hk
  split at h
  ·split at h
   ·cases h;exact⟨Nat.le_refl _,fun _ _ h=>h⟩
   ·cases h
    refine⟨Nat.le_succ _,fun q hq hn=> ?_⟩
    rw[upd_other _ _ (by rintro rfl;rw[hk]at hn;cases hn),upd_other _ _ (by omega)];exact hn
  ·cases h
 ·rename_i g hk
  split at h
  ·rename_i l0 hg
   split at h
   ·cases h
    refine⟨Nat.le_succ _,fun q hq hn=> ?_⟩
    rw[upd_other _ _ (by rintro rfl;rw[hk]at hn;cases hn),upd_other _ _ (by omega),upd_other _ _ (by rintro rfl;rw[hg]at hn;cases hn)];exact hn
   ·cases h
  ·cases h
 ·cases h
theorem ext_frame {e:Ext} {args:List V} {H H':Nat->Option O} {n n':Nat} {r:V} (h:extSem e args H n=some (r,H',n')):n<=n'/\ ∀k,k<n->H k=none->H' k=none:=by
 unfold extSem at h
 split at h
 ·cases h;exact⟨Nat.le_refl _,fun _ _ h=>h⟩
 ·split at h
  ·rename_i k len rs hk
   simp only[Option.bind_eq_some_iff]at h
   obtain⟨zs,_,h⟩:=h
   split at h
   ·cases h
    refine⟨Nat.le_refl _,fun q _ hq=> ?_⟩
    rw[upd_other];exact hq
    rintro rfl;rw[hk]at hq;cases hq
   ·cases h
  ·cases h
 ·cases h;exact⟨Nat.le_refl _,fun _ _ h=>h⟩
 ·split at h
  ·rename_i k len rs hk
   simp only[Option.bind_eq_some_iff]at h
   obtain⟨zs,_,h⟩:=h
   split at h
   ·cases h
    refine⟨Nat.le_refl _,fun q _ hq=> ?_⟩
    rw[upd_other];exact hq
    rintro rfl;rw[hk]at hq;cases hq
   ·cases h
  ·cases h
 ·cases h;exact⟨Nat.le_refl _,fun _ _ h=>h⟩
 ·cases h;exact⟨Nat.le_refl _,fun _ _ h=>h⟩
 ·simp only[Option.bind_eq_some_iff]at h
  obtain⟨zs,_,h⟩:=h
  split at h
  ·cases h
   refine⟨Nat.le_succ _,fun q hq hn=> ?_⟩
   rw[upd_other];exact hn
   rintro rfl;exact Nat.lt_irrefl _ hq
  ·cases h
 ·simp only[Option.map_eq_some_iff,Prod.exists]at h
  obtain⟨a,b,h1,h2⟩:=h
  cases h2
  exact bldAdd_frame h1
 ·split at h
  ·simp only[Option.map_eq_some_iff,Prod.exists]at h
   obtain⟨a,b,h1,h2⟩:=h
   cases h2
   exact bldAdd_frame h1
  ·cases h
 ·split at h
  ·rename_i hk
   cases h
   refine⟨Nat.le_refl _,fun q _ hq=> ?_⟩
   rw[upd_other];exact hq
   rintro rfl;rw[hk]at hq;cases hq
  ·rename_i g hk
   split at h
   ·rename_i l hg
    cases h
    refine⟨Nat.le_refl _,fun q _ hq=> ?_⟩
    rw[upd_other _ _ (by rintro rfl;rw[hk]at hq;cases hq),upd_other _ _ (by rintro rfl;rw[hg]at hq;cases hq)];exact hq
   ·cases h
  ·cases h
 ·cases h
def CR (P:Program) (I:Inv) (rc:Code) (m:Nat) (b:C):Prop:= ∃rw L k,k<=m/\compC P I rw L k rc=some b/\b.noRange=true
theorem fenced_FW {P:Program} {ro:Option Nat} {m:Machine}:m.fenced P (FW ro):=fenced_wide P m
def Fr (s s':St):Prop:=s.nxt<=s'.nxt/\ ∀k,k<s.nxt->s.heap k=none->s'.heap k=none
def Good (P:Program) (I:Inv) (N:Nam):Task->Out->Prop
 | .code cd s,.code ex s'=>Fr s s'/\ ∀rw L k rc,compC P I rw L k rc=some cd-> ∀ro,(ro=none\/cd.noRange=true)-> ∀c ns A μ lam a w,k<=ns->Rel N c ns A μ lam s a w->rc.wpIn (FW ro) 0 P (Post N c ns ex s') a w
 | .loop b s,.code ex s'=>Fr s s'/\ ∀rw L k rc,compC P I rw L k rc=some b-> ∀ro,(ro=none\/b.noRange=true)-> ∀c ns A μ lam a w,k<=ns->Rel N c ns A μ lam s a w->
    ∀(b0:Frame) (kk:List Item) (cs:List Frame),b0.roundOf=ro-> ∃e a' w',Post N c ns ex s' e a' w'/\ArrivesIn (Machine.fenced P (FW ro)) P (lone (b0.atR a (.code rc:: .inLoop rc::kk)) cs w) b0 kk cs e a' w'
 | .ops d p l s,.ops s'=> ∀full:List ROp,full.drop p=l->Run P N d full ((List.range l.length).map (p+ ·)) s s'
 | .pcall g args,.val r=>PureOK P N g args r
 | .rcall g args H n,.vals r H' n'=>RawOK P N g args H n r H' n'/\n<=n'/\ ∀k,k<n->H k=none->H' k=none
 | _,_=>True
theorem Rel.grow {N:Nam} {c:Ctx} {ns:Nat} {A:Nat->Prop} {μ lam:Nat->Nat} {s:St} {a:Act} {w:World} (R:Rel N c ns A μ lam s a w) (n:Nat):Rel N c ns A μ lam (s.begin n) a w:=
 { R with adr:=fun t b o h=>by simp[St.begin]at h,fresh:=fun k h=>R.fresh k (by simp only[St.begin]at h;omega) }
theorem run_free {P:Program} {N:Nam} {d:Bool} {l:List ROp}: ∀{is:List Nat} {s s':St},Run P N d l is s s'->s'.bas=s.bas/\s.nxt<=s'.nxt/\ ∀k,k<s.nxt->(∀i∈is,k≠s.bas+i)->s.heap k=none->s'.heap k=none
 | [],s,s',h=>by cases h;exact⟨rfl,Nat.le_refl _,fun _ _ _ h=>h⟩
 | i::is,s,s',h=>by
   cases h with
   | cons hr h1 h2=>
     obtain⟨a1,a2,a3⟩:=h1.free
     obtain⟨b1,b2,b3⟩:=run_free h2
     refine⟨by rw[b1,a1],Nat.le_trans a2 b2,fun k hk hne hn=> ?_⟩
     exact b3 k (by omega) (fun j hj=>by rw[a1];exact hne j (List.mem_cons_of_mem _ hj)) (a3 k hk (hne i List.mem_cons_self) hn)
theorem begin_fr {P:Program} {N:Nam} {d:Bool} {l:List ROp} {s s':St} (h:Run P N d l (List.range l.length) (s.begin l.length) s'):Fr s s':=by
 obtain⟨h1,h2,h3⟩:=run_free h
 simp only[St.begin]at h1 h2 h3
 refine⟨by omega,fun k hk hn=>h3 k (by omega) (fun i _=>by omega) hn⟩
theorem Post.then {P:Program} {N:Nam} {c:Ctx} {ns:Nat} {ro:Option Nat} {ex:Ex} {s1 s2:St} {rc:Code} (h: ∀A μ lam a w,Rel N c ns A μ lam s1 a w->rc.wpIn (FW ro) 0 P (Post N c ns ex s2) a w):
 ∀e a w,Post N c ns .normal s1 e a w->Exit.then (rc.wpIn (FW ro) 0 P (Post N c ns ex s2)) (Post N c ns ex s2) e a w:=by
 rintro e a w ⟨rfl,A',μ',lam',R'⟩
 exact h A' μ' lam' a w R'
theorem reify_rep {N:Nam} {c:Ctx} {ns:Nat} {A:Nat->Prop} {μ lam:Nat->Nat} {s:St} {a:Act} {w:World} (R:Rel N c ns A μ lam s a w) {x y:V} {v:Value} (hr:RepV w A N.nm μ s.heap v x) (hy:reify s.heap x=some y):
 RepV w (fun q=>A q\/MBH s.heap μ q) N.nm (fun _=>0) (fun _=>none) v y:=by
 have hmono: ∀q (l:List Nat),(A q\/ ∃k∈l,isRows s.heap k/\μ k=q)->A q\/MBH s.heap μ q:=by
  rintro q l (h | ⟨k,_,⟨sz,rs,f,hk⟩,rfl⟩)
  ·exact .inl h
  ·cases f with
   | true=>exact .inl (R.afz k sz rs hk)
   | false=>exact .inr ⟨k,_,hk,by simp,rfl,rfl⟩
 have one: ∀{x y:V} {v:Value},RepV w A N.nm μ s.heap v x->toT1 s.heap x=some y->RepV1 w (fun q=>A q\/MBH s.heap μ q) N.nm (fun _=>0) (fun _=>none) v y:=
  fun hr hy=>(toT1_rep R.heap hy hr _ _).mono fun q h=>hmono q _ h
 cases x with
 | tup cs=>
   simp only[reify,Option.map_eq_some_iff]at hy
   obtain⟨ys,hys,rfl⟩:=hy
   obtain⟨vs,rfl,hl,h⟩:=hr
   obtain⟨m1,m2⟩:=mapM_some hys
   refine⟨vs,rfl,by rw[hl,m1],fun i c hi=> ?_⟩
   obtain⟨z,hz,ht⟩:=m2 i c hi
   obtain⟨u,hu,hur⟩:=h i z hz
   exact⟨u,hu,one hur.toV ht⟩
 | _=>exact(one hr hy).toV
theorem big_sound {P:Program} {I:Inv} {N:Nam} {Γ:Nat->Option F} (hI:I.Ok N) (hT:TableOK P I N Γ) (hmix:P.follows .mixedOrders=true) (hcr: ∀rc m b,N.cr rc m b<->CR P I rc m b) {t:Task} {o:Out} (h:Big Γ N.G t o):Good P I N t o:=by
 have hreal: ∀g fn,Γ g=some fn->(∀e,fn.body≠ .ext e)-> ∃rf rw L body b,P.funcs[N.nm g]? =some rf/\Real P (N.nm g) rf/\rf.body=some body/\compC P I rw L rf.ntmps body=some b/\fn.body=b/\
  rf.results.toList.length=fn.results.length/\(∀(i:Nat) (x:ResultVar) (y:Res),rf.results.toList[i]? =some x->fn.results[i]? =some y->resRel P x y):=by
  intro g fn hg hne
  obtain⟨rf,rw,L,raw,h1,h2⟩: ∃rf rw L raw,P.funcs[N.nm g]? =some rf/\compF P I rw L raw rf=some fn:=by
   rcases hT g fn hg with h | ⟨e,he,_⟩
   ·exact h
   ·exact absurd he (hne e)
  simp only[compF,Option.bind_eq_bind,Option.bind_eq_some_iff]at h2
  obtain⟨body,hb,b,hc,rs,hrs,h2⟩:=h2
  split at h2
  ·simp at h2
  ·rename_i hn
   simp only[Option.some.injEq]at h2;subst h2
   obtain⟨m1,m2⟩:=mapM_some hrs
   refine⟨rf,rw,L,body,b,h1,⟨h1,by rw[hb];rfl,by simpa using hn⟩,hb,hc,rfl,m1,fun i x y hx hy=> ?_⟩
   obtain⟨x',hx',hr⟩:=m2 i y hy
   rw[hx]at hx';cases hx'
   cases x with
   | tmp t=>simp only[compRes,Option.some.injEq]at hr;subst hr;rfl
   | cell ad ty=>
     simp only[compRes,Option.bind_eq_bind,Option.bind_eq_some_iff,Prod.exists]at hr
     obtain⟨ag,n,hty,hr⟩:=hr
     split at hr<;>simp only[Option.some.injEq]at hr<;>subst hr<;>exact⟨rfl,hty⟩
 have hreal1: ∀g fn,Γ g=some fn-> ∃rf,Real P (N.nm g) rf:=by
  intro g fn hg
  by_cases hx: ∀e,fn.body≠ .ext e
  ·obtain⟨rf,_,_,_,_,_,hre,_⟩:=hreal g fn hg hx
   exact⟨rf,hre⟩
  ·rcases hT g fn hg with⟨rf,rw,L,raw,h1,h2⟩ | ⟨e,_,h⟩
   ·exfalso
    refine hx fun e he=> ?_
    simp only[compF,Option.bind_eq_bind,Option.bind_eq_some_iff]at h2
    obtain⟨body,hb,b,hc,rs,hrs,h2⟩:=h2
    split at h2
    ·simp at h2
    ·simp only[Option.some.injEq]at h2;subst h2
     simp only at he;subst he
     exact comp_ext hc
   ·exact h.1
 induction h with
 | skip=>
   refine⟨⟨Nat.le_refl _,fun _ _ h=>h⟩,fun rw L k rc hc ro _ c ns A μ lam a w _ R=> ?_⟩
   rcases inv_skip hc with rfl | ⟨l,rfl⟩
   ·exact wpIn_skip ⟨rfl,A,μ,lam,R⟩
   ·exact wpIn_label ⟨rfl,A,μ,lam,R⟩
 | ret=>
   refine⟨⟨Nat.le_refl _,fun _ _ h=>h⟩,fun rw L k rc hc ro _ c ns A μ lam a w _ R=> ?_⟩
   rw[inv_ret hc]
   exact wpIn_ret ⟨rfl,A,μ,lam,R⟩
 | exit=>
   refine⟨⟨Nat.le_refl _,fun _ _ h=>h⟩,fun rw L k rc hc ro _ c ns A μ lam a w _ R=> ?_⟩
   rw[inv_exit hc]
   exact wpIn_exit ⟨rfl,A,μ,lam,R⟩
 | region h ih=>
   rename_i s s' d l
   have hrun:=ih l rfl
   simp only[Nat.zero_add,List.map_id']at hrun
   refine⟨begin_fr hrun,fun rw L k rc hc ro hro c ns A μ lam a w hk R=> ?_⟩
   obtain⟨id,ops,rfl,hops,hdr⟩:=inv_region hc
   obtain⟨h1,h2⟩:=compOps_spec P I hops
   have h2': ∀(i:Nat) (r:ROp),l[i]? =some r-> ∃o,ops.toList[i]? =some o/\OpRel P I ns ops o r:=by
    intro i r hi
    obtain⟨o,ho,hr⟩:=h2 i r hi
    refine⟨o,ho,hr.dst,hr.op,fun x hx=>Nat.lt_of_lt_of_le (hr.lt x hx) hk,?_⟩
    have hg:=hr.guard
    unfold compGuard at hg⊢
    split at hg
    ·exact hg
    ·split at hg
     ·split at hg
      ·rename_i hlt
       simp only[Option.some.injEq]at hg
       simp only[Nat.lt_of_lt_of_le hlt hk,if_true,hg]
      ·simp at hg
     ·simp at hg
   have hfresh: ∀i,i<l.length->(s.begin l.length).heap ((s.begin l.length).bas+i)=none/\(s.begin l.length).bas+i<(s.begin l.length).nxt:=by
    intro i hi
    exact⟨R.fresh _ (by simp[St.begin]),by simp only[St.begin];omega⟩
   cases d with
   | false=>
     refine wpIn_region ?_
     have hsz:ops.size=l.length:=by simpa using h1
     rw[hsz]
     exact run_sound hI ⟨h1,h2'⟩ _ hrun List.nodup_range (fun i hi=>hfresh i (List.mem_range.1 hi)) (R.grow _) (fun a' w' A' μ' lam' R'=>⟨rfl,A',μ',lam',R'⟩)
   | true=>
     refine wpIn_region_draw fun t=> ?_
     rw[hmix,Region.schedule,Bool.true_or,if_pos rfl]
     exact draw_sound hI (T:=fun _ _ _=>True) (fun _ _ _ _ _ _=>trivial) (ck:=[]) (by simp) ⟨h1,h2'⟩ (hdr rfl) _ hrun.toT hfresh (R.grow _).drew (fun a' w' A' μ' lam' R'=>⟨rfl,A',μ',lam',R'⟩) t
 | regionD h hck ih=>
   rename_i s s' ck l
   have hrun:=ih l rfl
   simp only[Nat.zero_add,List.map_id']at hrun
   refine⟨begin_fr hrun,fun rw L k rc hc ro hro c ns A μ lam a w hk R=> ?_⟩
   obtain⟨id,ops,rfl,hops,hdr,hst⟩:=inv_regionD hc
   obtain⟨h1,h2⟩:=compOps_spec P I hops
   have h2': ∀(i:Nat) (r:ROp),l[i]? =some r-> ∃o,ops.toList[i]? =some o/\OpRel P I ns ops o r:=by
    intro i r hi
    obtain⟨o,ho,hr⟩:=h2 i r hi
    refine⟨o,ho,hr.dst,hr.op,fun x hx=>Nat.lt_of_lt_of_le (hr.lt x hx) hk,?_⟩
    have hg:=hr.guard
    unfold compGuard at hg⊢
    split at hg
    ·exact hg
    ·split at hg
     ·split at hg
      ·rename_i hlt
       simp only[Option.some.injEq]at hg
       simp only[Nat.lt_of_lt_of_le hlt hk,if_true,hg]
      ·simp at hg
     ·simp at hg
   have hfresh: ∀i,i<l.length->(s.begin l.length).heap ((s.begin l.length).bas+i)=none/\(s.begin l.length).bas+i<(s.begin l.length).nxt:=by
    intro i hi
    exact⟨R.fresh _ (by simp[St.begin]),by simp only[St.begin];omega⟩
   refine wpIn_region_draw fun t=> ?_
   rw[hmix,Region.schedule,Bool.true_or,if_pos rfl]
   refine draw_sound hI (T:=AsEnd N ck s') (fun i r s u he h hm y hy=>(he y hy).symm.trans (h hm y hy)) (ck:=ck) (fun j i hm x y hx hy s h1 h2=>sepAll_spec hck hm hx hy h1 h2) ⟨h1,h2'⟩ hdr _
    (hrun.annot hst List.pairwise_lt_range) hfresh (R.grow _).drew (fun a' w' A' μ' lam' R'=>⟨rfl,A',μ',lam',R'⟩) t
 | seqN h1 h2 ih1 ih2=>
   refine⟨⟨Nat.le_trans ih1.1.1 ih2.1.1,fun k hk hn=>ih2.1.2 k (Nat.lt_of_lt_of_le hk ih1.1.1) (ih1.1.2 k hk hn)⟩,fun rw L k rc hc ro hro c ns A μ lam a w hk R=> ?_⟩
   have hro2:ro=none\/(_:C).noRange=true:=hro.imp id fun h=>(Bool.and_eq_true _ _▸h:_/\_).2
   rcases inv_seq hc with⟨x,y,rfl,hx,hy⟩ | ⟨x,rfl,rfl,hx⟩
   rotate_left
   ·rename_i e
    cases h1
    refine wpIn_scope (wpIn_mono (ih2.2 rw L k x hx ro hro2 c ns A μ lam a w hk R) ?_)
    rintro e' a' w' ⟨rfl,R'⟩
    cases e<;>exact⟨rfl,R'⟩
   have hro1:ro=none\/(_:C).noRange=true:=hro.imp id fun h=>(Bool.and_eq_true _ _▸h:_/\_).1
   refine wpIn_seq (wpIn_mono (ih1.2 rw L k x hx ro hro1 c ns A μ lam a w hk R) ?_)
   exact Post.then fun A μ lam a w R'=>ih2.2 rw L k y hy ro hro2 c ns A μ lam a w hk R'
 | seqX h1 he ih1=>
   rename_i e
   refine⟨ih1.1,fun rw L k rc hc ro hro c ns A μ lam a w hk R=> ?_⟩
   rcases inv_seq hc with⟨x,y,rfl,hx,hy⟩ | ⟨x,rfl,rfl,hx⟩
   rotate_left
   ·cases h1;exact absurd rfl he
   have hro1:ro=none\/(_:C).noRange=true:=hro.imp id fun h=>(Bool.and_eq_true _ _▸h:_/\_).1
   refine wpIn_seq (wpIn_mono (ih1.2 rw L k x hx ro hro1 c ns A μ lam a w hk R) ?_)
   rintro e' a' w' ⟨rfl,R'⟩
   cases e with
   | normal=>exact absurd rfl he
   | exit id=>exact⟨rfl,R'⟩
   | ret=>exact⟨rfl,R'⟩
 | cond hc0 h ih=>
   refine⟨ih.1,fun rw L k rc hc ro hro c ns A μ lam a w hk R=> ?_⟩
   obtain⟨c0,x,y,rfl,h0,hx,hy⟩:=inv_cond hc
   refine wpIn_cond (bool_eval hI R h0 hc0) (ih.2 rw L k _ ?_ ro ?_ c ns A μ lam a w hk R)
   ·split
    ·exact hx
    ·exact hy
   ·refine hro.imp id fun h=> ?_
    simp only[C.noRange,Bool.and_eq_true]at h
    split
    ·exact h.1
    ·exact h.2
 | block h ih=>
   rename_i id b e
   refine⟨ih.1,fun rw L k rc hc ro hro c ns A μ lam a w hk R=> ?_⟩
   obtain⟨x,rfl,hx⟩:=inv_block hc
   refine wpIn_block (wpIn_mono (ih.2 rw L k x hx ro hro c ns A μ lam a w hk R) ?_)
   rintro e' a' w' ⟨rfl,R'⟩
   cases e with
   | normal=>exact⟨rfl,R'⟩
   | ret=>exact⟨rfl,R'⟩
   | exit id'=>
     simp only[exOf,Exit.inBlock]
     by_cases hid:id'=id
     ·subst hid;simp only[if_true];exact⟨rfl,R'⟩
     ·rw[if_neg hid,if_neg (by simpa using hid)];exact⟨rfl,R'⟩
 | loop h ih=>
   refine⟨ih.1,fun rw L k rc hc ro hro c ns A μ lam a w hk R=> ?_⟩
   obtain⟨x,rfl,hx⟩:=inv_loop hc
   intro b0 kk cs hb0 _ _
   obtain⟨e,a',w',hp,harr⟩:=ih.2 rw L k x hx ro hro c ns A μ lam a w hk R b0 kk cs hb0
   exact⟨e,a',w',hp,.of_steps (.one fenced_FW stepR_loop) harr⟩
 | loopN h1 h2 ih1 ih2=>
   refine⟨⟨Nat.le_trans ih1.1.1 ih2.1.1,fun k hk hn=>ih2.1.2 k (Nat.lt_of_lt_of_le hk ih1.1.1) (ih1.1.2 k hk hn)⟩,fun rw L k rc hc ro hro c ns A μ lam a w hk R b0 kk cs hb0=> ?_⟩
   obtain⟨e,a1,w1,⟨rfl,A',μ',lam',R'⟩,harr⟩:=ih1.2 rw L k rc hc ro hro c ns A μ lam a w hk R b0 (.inLoop rc::kk) cs hb0 trivial FW_room
   obtain⟨e2,a2,w2,hp2,harr2⟩:=ih2.2 rw L k rc hc ro hro c ns A' μ' lam' a1 w1 hk R' b0 kk cs hb0
   exact⟨e2,a2,w2,hp2,.of_steps (StepsIn.trans harr (.one fenced_FW stepR_inLoop)) harr2⟩
 | loopX h1 he ih1=>
   rename_i e
   refine⟨ih1.1,fun rw L k rc hc ro hro c ns A μ lam a w hk R b0 kk cs hb0=> ?_⟩
   obtain⟨e',a1,w1,⟨rfl,R'⟩,harr⟩:=ih1.2 rw L k rc hc ro hro c ns A μ lam a w hk R b0 (.inLoop rc::kk) cs hb0 trivial FW_room
   refine⟨_,a1,w1,⟨rfl,R'⟩,?_⟩
   cases e with
   | normal=>exact absurd rfl he
   | exit id=>exact .pass (x:=.inLoop rc) rfl (fun _ _=> .inl (by simp[exOf])) harr
   | ret=>exact .pass (x:=.inLoop rc) rfl (fun _ _=> .inl (by simp[exOf])) harr
 | opsNil=>
   intro full _
   exact .nil
 | opsSkip hw hf h ih=>
   rename_i p s s' o l
   intro full hfull
   have hget:full[p]? =some o:=by have:=congrArg (·[0]?) hfull;simpa using this
   have hdrop:full.drop (p+1)=l:=by have:=congrArg List.tail hfull;simpa using this
   have hr:=ih full hdrop
   rw[List.length_cons,List.range_succ_eq_map,List.map_cons,List.map_map,Nat.add_zero]
   refine .cons hget (.skip hw hf) ?_
   have:(fun x=>p+x)∘Nat.succ=fun x=>p+1+x:=by funext x;simp;omega
   rw[this];exact hr
 | opsEff hw hf he h ih=>
   rename_i p s s' o l e
   intro full hfull
   have hget:full[p]? =some o:=by have:=congrArg (·[0]?) hfull;simpa using this
   have hdrop:full.drop (p+1)=l:=by have:=congrArg List.tail hfull;simpa using this
   have hr:=ih full hdrop
   rw[List.length_cons,List.range_succ_eq_map,List.map_cons,List.map_map,Nat.add_zero]
   refine .cons hget (.eff hw hf he) ?_
   have:(fun x=>p+x)∘Nat.succ=fun x=>p+1+x:=by funext x;simp;omega
   rw[this];exact hr
 | opsPure hw hf ho hfv hfn hg hr0 hvs hrs hc hd h ihc ih=>
   rename_i d p s s' o l f args fv g a b vs rs fn r
   intro full hfull
   have hget:full[p]? =some o:=by have:=congrArg (·[0]?) hfull;simpa using this
   have hdrop:full.drop (p+1)=l:=by have:=congrArg List.tail hfull;simpa using this
   have hr:=ih full hdrop
   obtain⟨rf,hre⟩:=hreal1 g fn hg
   rw[List.length_cons,List.range_succ_eq_map,List.map_cons,List.map_map,Nat.add_zero]
   refine .cons hget (.pure hw hf ho hfv hfn hre hvs hrs ihc hd) ?_
   have:(fun x=>p+x)∘Nat.succ=fun x=>p+1+x:=by funext x;simp;omega
   rw[this];exact hr
 | opsRaw hw hf ho hfv hfn hg hr0 hvs hc h ihc ih=>
   rename_i d p s s' o l f args fv g a b vs fn r h' n'
   intro full hfull
   have hget:full[p]? =some o:=by have:=congrArg (·[0]?) hfull;simpa using this
   have hdrop:full.drop (p+1)=l:=by have:=congrArg List.tail hfull;simpa using this
   have hr:=ih full hdrop
   obtain⟨rf,hre⟩:=hreal1 g fn hg
   rw[List.length_cons,List.range_succ_eq_map,List.map_cons,List.map_map,Nat.add_zero]
   refine .cons hget (.raw hw hf ho hfv hfn hre hvs ihc.1 ihc.2.1 ihc.2.2) ?_
   have:(fun x=>p+x)∘Nat.succ=fun x=>p+1+x:=by funext x;simp;omega
   rw[this];exact hr
 | opsFresh hw hf ho hfv hfn hg hr0 hvs hrs hd hc he h ihc ih=>
   rename_i d p s s' o l f args fv g a b vs rs fn r h' n' e
   intro full hfull
   have hget:full[p]? =some o:=by have:=congrArg (·[0]?) hfull;simpa using this
   have hdrop:full.drop (p+1)=l:=by have:=congrArg List.tail hfull;simpa using this
   have hr:=ih full hdrop
   obtain⟨rf,hre⟩:=hreal1 g fn hg
   rw[List.length_cons,List.range_succ_eq_map,List.map_cons,List.map_map,Nat.add_zero]
   refine .cons hget (.fresh hw hf ho hfv hfn hre hvs hrs hd ihc.1 he) ?_
   have:(fun x=>p+x)∘Nat.succ=fun x=>p+1+x:=by funext x;simp;omega
   rw[this];exact hr
 | rangeF hfv hfn hg hr0 hc hl he ihc=>
   rename_i s x ps bd bd' fv g as bs fn r h' n' env' ps' st e
   obtain⟨hraw,hn1,hn2⟩:=ihc
   refine⟨⟨by show s.nxt<=n';omega,fun k hk hn=> ?_⟩,fun rw L k rc hcc ro hro c ns A μ lam a w hk R=> ?_⟩
   ·show upd h' s.nxt _ k=none
    rw[upd_other _ _ (by omega)]
    exact hn2 k (by omega) (by rw[upd_other _ _ (by omega)];exact hn)
   ·obtain rfl:ro=none:=hro.resolve_right (by simp[C.noRange])
    obtain⟨f,aps,z,y,ca,cb,rfl,hf,rfl,hz,hy,hnz,hnr,hlt,rfl⟩:=inv_range hcc
    obtain⟨rf,hre⟩:=hreal1 g fn hg
    exact range_sound hI R hf hfv hfn hre ((hcr _ _ _).2 ⟨rw,L,k,hk,hz,hnz⟩) ((hcr _ _ _).2 ⟨rw,L,k,hk,hy,hnr⟩) (fun t ht=>Nat.lt_of_lt_of_le (hlt t ht) hk) hraw hl he
 | opsYield hw hf ho hfv hkk hvs hlen hca hk1 hcb hk2 h iha ihb ih=>
   rename_i d p s s' s1 s2 o l f args k vs env env1 env' ps ps1 ps' ca cb bd1 bd' e
   intro full hfull
   have hget:full[p]? =some o:=by have:=congrArg (·[0]?) hfull;simpa using this
   have hdrop:full.drop (p+1)=l:=by have:=congrArg List.tail hfull;simpa using this
   have hr:=ih full hdrop
   rw[List.length_cons,List.range_succ_eq_map,List.map_cons,List.map_map,Nat.add_zero]
   have hasg:BodyOK P N ca (roundSt s.heap s.nxt k env ps (.round ca cb) vs) .normal s1:=by
    intro rc m hcr' l c A μ lam a w R
    obtain⟨rw,L,k',hk',hcomp,hnr⟩:=(hcr _ _ _).1 hcr'
    exact iha.2 rw L k' rc hcomp (some l) (.inr hnr) c m A μ lam a w hk' R
   have hbody:BodyOK P N cb { s1 with heap:=upd s1.heap k (some (.loop env1 ps1 bd1 .busy)) } e s2:=by
    intro rc m hcr' l c A μ lam a w R
    obtain⟨rw,L,k',hk',hcomp,hnr⟩:=(hcr _ _ _).1 hcr'
    exact ihb.2 rw L k' rc hcomp (some l) (.inr hnr) c m A μ lam a w hk' R
   have hfr:s.nxt<=s2.nxt/\ ∀q,q<s.nxt->s.heap q=none->s2.heap q=none:=by
    have hne: ∀q,s.heap q=none->q≠k:=by rintro q hn rfl;rw[hkk]at hn;cases hn
    refine⟨Nat.le_trans iha.1.1 ihb.1.1,fun q hq hn=>ihb.1.2 q (Nat.lt_of_lt_of_le hq iha.1.1) ?_⟩
    show upd s1.heap k _ q=none
    rw[upd_other _ _ (hne q hn)]
    refine iha.1.2 q hq ?_
    show upd s.heap k _ q=none
    rw[upd_other _ _ (hne q hn)];exact hn
   refine .cons hget (.yld hw hf ho hfv hkk hvs hlen hasg hk1 hbody hk2 hfr) ?_
   have:(fun x=>p+x)∘Nat.succ=fun x=>p+1+x:=by funext x;simp;omega
   rw[this];exact hr
 | pcall hg hr0 h he hv hre ih=>
   rename_i g args fn s' e v r
   obtain⟨rf,rw,L,body,b,hf,hrl,hb,hcomp,rfl,hl1,hl2⟩:=hreal g fn hg (fun e he=>by rw[he]at h;cases h)
   intro A w vs hA hgl hargs
   have HR:Rel N ⟨w,fun _=>False,A,fun _=>none,fun _=>0⟩ 0 A (fun _=>0) (fun _=>0) (.init [] (fun _=>none) 0) bareAct w:=
    { size:=rfl,defers:=Marks.nil _ _ _,env:=fun t=>by simp[St.init,initEnv,bareAct,RepV],loc:=fun t cs h=>by simp[St.init]at h,adr:=fun t b o h=>by simp[St.init]at h,
      heap:=fun k o h=>by simp[St.init]at h,hinj:=fun k k' o o' h=>by simp[St.init]at h,linj:=fun t t' h=>by simp[St.init]at h,lh:=fun t k o h=>by simp[St.init]at h,
      aH:=fun r _=>by rintro⟨k,o,h,_⟩;simp[St.init]at h,aL:=fun r _=>by rintro⟨t,h,_⟩;simp[St.init]at h,alt:=hA,afz:=fun k sz rs h=>by simp[St.init]at h,fresh:=fun _ _=>rfl,
      glob:=hgl,cout:=⟨rfl,rfl⟩,csize:=Nat.le_refl _,ckeep:=fun _ _ _=>rfl,cshp:=fun _ _ h=>h,csub:=fun _ h=>h,canew:=fun _ h=> .inl h,clive:=fun r=>by rintro⟨k,o,h,_⟩;simp[St.init]at h,
      cloc:=fun t h=>by simp[St.init]at h,chp:=fun k o h=>by simp at h }
   have R0:=rel_enter HR hargs rf.ntmps
   refine calls_of_body hf hb he (ih.2 rw L _ body hcomp none (.inl rfl) _ _ A _ _ _ w (by simp;omega) R0) ?_
   intro A' μ' lam' tmps w' R'
   obtain⟨v',hrun,hrep⟩:=res_all (P:=P) R' hl1 hl2 hv
   refine⟨v',hrun,v',rfl,R'.cout,R'.csize,fun q hq=>R'.ckeep q hq (fun h=>h),(reify_rep R' hrep hre).mono ?_⟩
   rintro q (h | h)
   ·rcases R'.canew q h with h1 | h1 | h1
    ·exact .inl h1
    ·exact h1.elim
    ·exact .inr ⟨h1,R'.alt q h⟩
   ·rcases R'.clive q h with h1 | h1
    ·exact h1.elim
    ·obtain⟨k,o,hk,_,hl,rfl⟩:=h
     exact .inr ⟨h1,R'.lt_live hk hl⟩
 | rcall hg hr0 h he hv ih=>
   rename_i g args fn s' e v hp n
   obtain⟨rf,rw,L,body,b,hf,hrl,hb,hcomp,rfl,hl1,hl2⟩:=hreal g fn hg (fun e he=>by rw[he]at h;cases h)
   refine⟨?_,ih.1.1,ih.1.2⟩
   intro c A μ lam w vs HR hargs
   have R0:=rel_enter HR hargs rf.ntmps
   refine calls_of_body hf hb he (ih.2 rw L _ body hcomp none (.inl rfl) _ _ A _ _ _ w (by simp;omega) R0) ?_
   intro A' μ' lam' tmps w' R'
   obtain⟨v',hrun,hrep⟩:=res_all (P:=P) R' hl1 hl2 hv
   exact⟨v',hrun,v',A',μ',lam',rfl,rel_leave R',hrep⟩
 | rext hg hr0 hb h=>
   rename_i g args fn e r hp h' n n'
   obtain⟨f1,f2⟩:=ext_frame h
   refine⟨?_,f1,f2⟩
   rcases hT g fn hg with⟨rf,rw,L,raw,h1,h2⟩ | ⟨e',he',hx⟩
   ·exfalso
    simp only[compF,Option.bind_eq_bind,Option.bind_eq_some_iff]at h2
    obtain⟨body,_,b,hc,rs,hrs,h2⟩:=h2
    split at h2
    ·simp at h2
    ·simp only[Option.some.injEq]at h2;subst h2
     simp only at hb;subst hb
     exact comp_ext hc
   ·rw[hb]at he';cases he'
    exact hx.2.1 args hp n r h' n' h
 | pext hg hr0 hb h=>
   rename_i g args fn e r
   rcases hT g fn hg with⟨rf,rw,L,raw,h1,h2⟩ | ⟨e',he',hx⟩
   ·exfalso
    simp only[compF,Option.bind_eq_bind,Option.bind_eq_some_iff]at h2
    obtain⟨body,_,b,hc,rs,hrs,h2⟩:=h2
    split at h2
    ·simp at h2
    ·simp only[Option.some.injEq]at h2;subst h2
     simp only at hb;subst hb
     exact comp_ext hc
   ·rw[hb]at he';cases he'
    exact hx.2.2 args r h
end Rg
end
section
namespace Rg
open Go
structure Slot where
 v:V
 box:Option (List V)
 ad:Option (Nat×Nat)
structure M where
 sl:Nat->Slot
 used:Nat->Bool
 heap:Nat->Option O
 nxt:Nat
 bas:Nat
def M.st (m:M):St:={ env:=fun t=>(m.sl t).v,loc:=fun t=>(m.sl t).box,adr:=fun t=>(m.sl t).ad,used:=m.used,heap:=m.heap,nxt:=m.nxt,bas:=m.bas }
def beg (f:Nat->Slot):Nat->Slot:=fun t=>{ f t with ad:=none }
def M.begin (m:M) (n:Nat):M:={ m with sl:=beg m.sl,used:=fun _=>false,bas:=m.nxt,nxt:=m.nxt+n }
theorem st_begin (m:M) (n:Nat):m.st.begin n=(m.begin n).st:=rfl
def setBox (f:Nat->Slot):Option (Nat×List V)->Nat->Slot
 | none=>f
 | some (b,cs)=>upd f b { f b with box:=some cs }
def M.apply (m:M) (dst:Option Nat) (e:Eff):M:=
 { m with
   sl:=match dst with | none=>setBox m.sl e.wloc | some d=>upd (setBox m.sl e.wloc) d ⟨e.val,e.loc,e.adr⟩
   used:=match e.adr with | some (b,_)=>upd m.used b true | none=>m.used
   heap:=hpUpd m.heap e.hp }
theorem st_apply (m:M) (dst:Option Nat) (e:Eff):m.st.apply dst e=(m.apply dst e).st:=by
 have hb: ∀(f:Nat->Slot) (w:Option (Nat×List V)) (t:Nat),(setBox f w t).v=(f t).v/\(setBox f w t).ad=(f t).ad/\
  (setBox f w t).box=(match w with | some (b,cs)=>upd (fun t=>(f t).box) b (some cs) | none=>fun t=>(f t).box) t:=by
  intro f w t
  cases w with
  | none=>simp[setBox]
  | some x=>
    obtain⟨b,cs⟩:=x
    by_cases h:t=b
    ·subst h;simp[setBox]
    ·simp[setBox,upd,h]
 cases dst with
 | none=>
   simp only[St.apply,M.apply,M.st,St.mk.injEq,and_true]
   refine⟨?_,?_,?_,rfl⟩
   ·funext t;exact(hb m.sl e.wloc t).1.symm
   ·funext t;exact(hb m.sl e.wloc t).2.2.symm
   ·funext t;exact(hb m.sl e.wloc t).2.1.symm
 | some d=>
   simp only[St.apply,M.apply,M.st,St.mk.injEq,and_true]
   refine⟨?_,?_,?_,rfl⟩
   ·funext t
    by_cases h:t=d
    ·subst h;simp
    ·simp[upd,h,(hb m.sl e.wloc t).1]
   ·funext t
    by_cases h:t=d
    ·subst h;simp
    ·rw[upd_other _ _ h,upd_other _ _ h];exact(hb m.sl e.wloc t).2.2.symm
   ·funext t
    by_cases h:t=d
    ·subst h;simp
    ·simp[upd,h,(hb m.sl e.wloc t).2.1]
def M.init (args:List V) (h:Nat->Option O) (n:Nat):M:=
 { sl:=fun t=>⟨initEnv args t,none,none⟩,used:=fun _=>false,heap:=h,nxt:=n,bas:=n }
theorem st_init (args:List V) (h:Nat->Option O) (n:Nat):St.init args h n=(M.init args h n).st:=rfl
def M.free (m:M) (dst:Option Nat) (e:Eff):Bool:=
 match dst with
 | none=>true
 | some d=> !m.used d&&(match e.adr with | none=>true | some (b,_)=>b != d)
theorem free_of {m:M} {dst:Option Nat} {e:Eff} (h:m.free dst e=true):m.st.free dst e:=by
 intro d hd
 subst hd
 simp only[M.free,Bool.and_eq_true,Bool.not_eq_true']at h
 refine⟨h.1,fun b o hb=> ?_⟩
 rw[hb]at h
 simpa using h.2
section
variable (Γ:Nat->Option F) (G:Nat->List T)
def PC (g:Nat) (args:List V) (r:V):Prop:=Big Γ G (.pcall g args) (.val r)
def RC (g:Nat) (args:List V) (h:Nat->Option O) (n:Nat) (r:V) (h':Nat->Option O) (n':Nat):Prop:=Big Γ G (.rcall g args h n) (.vals r h' n')
def putP (d:Bool) (m:M) (dst:Option Nat) (l:List V) (r:V) (K:M->Prop):Prop:=
 if r.scalar then K (m.apply dst { val:=r })else(d=true->l.flatMap (reach1 m.heap)=[])/\K (m.apply dst { val:=r,hp:=freezes m.heap (l.flatMap (reach1 m.heap)) })
def callP (d:Bool) (m:M) (dst:Option Nat) (g:Nat) (l:List V) (K:M->Prop):Prop:=
 m.free dst {}=true/\ ∃rs,l.mapM (toT1 m.heap)=some rs/\ ∃r,PC Γ G g rs r/\(∃fn,Γ g=some fn/\fn.raw=false)/\putP d m dst l r K
def callR (m:M) (dst:Option Nat) (g:Nat) (l:List V) (K:M->Prop):Prop:=
 m.free dst {}=true/\ ∃r h' n',RC Γ G g l m.heap m.nxt r h' n'/\(∃fn,Γ g=some fn/\fn.raw=true)/\K ({ m with heap:=h',nxt:=n' }.apply dst { val:=r })
def callF (p:Nat) (m:M) (dst:Option Nat) (g:Nat) (l:List V) (K:M->Prop):Prop:=
 m.free dst {}=true/\l.flatMap (reach1 m.heap)=[]/\ ∃rs,l.mapM (toT1 m.heap)=some rs/\ ∃r h' n',RC Γ G g rs (fun _=>none) 0 r h' n'/\(∃fn,Γ g=some fn/\fn.raw=true)/\ ∃e,ownR (m.bas+p) r h'=some e/\K (m.apply dst e)
def YC (k:Nat) (vs:List V) (h:Nat->Option O) (n:Nat) (r:V) (h':Nat->Option O) (n':Nat):Prop:=
 ∃env ps ca cb s1 env1 ps1 bd1 env' ps' bd' e s2,h k=some (.loop env ps (.round ca cb) .ready)/\vs.length=ps.length/\Big Γ G (.code ca (roundSt h n k env ps (.round ca cb) vs)) (.code .normal s1)/\
  s1.heap k=some (.loop env1 ps1 bd1 .enter)/\Big Γ G (.code cb { s1 with heap:=upd s1.heap k (some (.loop env1 ps1 bd1 .busy)) }) (.code e s2)/\s2.heap k=some (.loop env' ps' bd' .busy)/\
  r= .t (.bool (decide (e=Ex.normal)))/\h'=upd s2.heap k (some (.loop env' ps' bd' e.toL))/\n'=s2.nxt
def callY (m:M) (dst:Option Nat) (k:Nat) (l:List V) (K:M->Prop):Prop:=
 m.free dst {}=true/\ ∃r h' n',YC Γ G k l m.heap m.nxt r h' n'/\K ({ m with heap:=h',nxt:=n' }.apply dst { val:=r })
def yldOf:V->Option Nat
 | .yl k=>some k
 | _=>none
def stepO (d:Bool) (p:Nat) (m:M) (dst:Option Nat) (op:AOp) (K:M->Prop):Prop:=
 match op with
 | .call raw f args=>
   match(evl G m.st f).bind fnOf,evls G m.st args with
   | some (g,a,b),some vs=>if raw then callR Γ G m dst g (a++vs++b) K else callP Γ G d m dst g (a++vs++b) K
   | none,some vs=>match(evl G m.st f).bind yldOf with
     | some k=>raw=true/\callY Γ G m dst k vs K
     | none=>False
   | _,_=>False
 | .fcall f args=>
   match(evl G m.st f).bind fnOf,evls G m.st args with
   | some (g,a,b),some vs=>callF Γ G p m dst g (a++vs++b) K
   | _,_=>False
 | op=>match aeval G p m.st op with
   | none=>False
   | some e=>m.free dst e=true/\K (m.apply dst e)
def wpO (d:Bool):Nat->List ROp->M->(M->Prop)->Prop
 | _,[],m,Q=>Q m
 | p,o::l,m,Q=>
   match wants m.st o.guard with
   | none=>False
   | some b=>if b=true then stepO Γ G d p m o.dst o.op (fun m'=>wpO d (p+1) l m' Q)else m.free o.dst {}=true/\wpO d (p+1) l (m.apply o.dst {}) Q
def W (c:C) (m:M) (Q:Ex->M->Prop):Prop:= ∃e m',Big Γ G (.code c m.st) (.code e m'.st)/\Q e m'
def WL (c:C) (m:M) (Q:Ex->M->Prop):Prop:= ∃e m',Big Γ G (.loop c m.st) (.code e m'.st)/\Q e m'
def WO (d:Bool) (p:Nat) (l:List ROp) (m:M) (Q:M->Prop):Prop:= ∃m',Big Γ G (.ops d p l m.st) (.ops m'.st)/\Q m'
end
section
variable {Γ:Nat->Option F} {G:Nat->List T}
theorem WO_of {d:Bool}: ∀{l:List ROp} {p:Nat} {m:M} {Q:M->Prop},wpO Γ G d p l m Q->WO Γ G d p l m Q
 | [],p,m,Q,h=>⟨m,.opsNil,h⟩
 | o::l,p,m,Q,h=>by
   simp only[wpO]at h
   split at h
   ·exact h.elim
   ·rename_i b hw
    split at h
    ·rename_i hb
     subst hb
     unfold stepO at h
     split at h
     ·rename_i raw f args ho
      split at h
      ·rename_i g a b vs hfv hvs
       simp only[Option.bind_eq_some_iff]at hfv
       obtain⟨fv,hfv,hfn⟩:=hfv
       split at h
       ·rename_i hraw
        subst hraw
        obtain⟨hf,r,h',n',hc,⟨fn,hg,hr⟩,hk⟩:=h
        obtain⟨m',hB,hQ⟩:=WO_of hk
        refine⟨m',.opsRaw hw (free_of hf) ho hfv hfn hg hr hvs hc ?_,hQ⟩
        rw[<- st_apply]at hB
        exact hB
       ·rename_i hraw
        have hraw:raw=false:=by simpa using hraw
        subst hraw
        obtain⟨hf,rs,hrs,r,hc,⟨fn,hg,hr⟩,hk⟩:=h
        unfold putP at hk
        split at hk
        ·rename_i hsc
         obtain⟨m',hB,hQ⟩:=WO_of hk
         refine⟨m',.opsPure hw (free_of hf) ho hfv hfn hg hr hvs hrs hc (fun _=> .inl hsc) ?_,hQ⟩
         rw[if_pos hsc,st_apply]
         exact hB
        ·rename_i hsc
         obtain⟨hd,hk⟩:=hk
         obtain⟨m',hB,hQ⟩:=WO_of hk
         refine⟨m',.opsPure hw (free_of hf) ho hfv hfn hg hr hvs hrs hc (fun h=> .inr (hd h)) ?_,hQ⟩
         rw[if_neg hsc,st_apply]
         exact hB
      ·rename_i vs hfn hvs
       split at h
       ·rename_i k hk
        obtain⟨rfl,hf,r,h',n',⟨env,ps,ca,cb,s1,env1,ps1,bd1,env',ps',bd',e,s2,g1,g2,g3,g3',g3'',g4,rfl,rfl,rfl⟩,hK⟩:=h
        simp only[Option.bind_eq_some_iff]at hk
        obtain⟨fv,hfv,hfk⟩:=hk
        have hfv':evl G m.st f=some (.yl k):=by
         cases fv<;>simp[yldOf]at hfk
         subst hfk;exact hfv
        obtain⟨m',hB,hQ⟩:=WO_of hK
        refine⟨m',.opsYield hw (free_of hf) ho hfv' g1 hvs g2 g3 g3' g3'' g4 ?_,hQ⟩
        rw[<- st_apply]at hB
        exact hB
       ·exact h.elim
      ·exact h.elim
     ·rename_i f args ho
      split at h
      ·rename_i g a b vs hfv hvs
       simp only[Option.bind_eq_some_iff]at hfv
       obtain⟨fv,hfv,hfn⟩:=hfv
       obtain⟨hf,hrn,rs,hrs,r,h',n',hc,⟨fn,hg,hr⟩,e,he,hk⟩:=h
       obtain⟨m',hB,hQ⟩:=WO_of hk
       refine⟨m',.opsFresh hw (free_of hf) ho hfv hfn hg hr hvs hrs hrn hc he ?_,hQ⟩
       rw[st_apply]
       exact hB
      ·exact h.elim
     ·split at h
      ·exact h.elim
      ·rename_i e he
       obtain⟨hf,hk⟩:=h
       obtain⟨m',hB,hQ⟩:=WO_of hk
       exact⟨m',.opsEff hw (free_of hf) he (by rw[st_apply];exact hB),hQ⟩
    ·rename_i hb
     have hb:b=false:=by simpa using hb
     subst hb
     obtain⟨hf,hk⟩:=h
     obtain⟨m',hB,hQ⟩:=WO_of hk
     exact⟨m',.opsSkip hw (free_of hf) (by rw[st_apply];exact hB),hQ⟩
theorem W_region {d:Bool} {l:List ROp} {m:M} {Q:Ex->M->Prop} (h:wpO Γ G d 0 l (m.begin l.length) (Q .normal)):W Γ G (.region d l) m Q:=by
 obtain⟨m',hB,hQ⟩:=WO_of h
 exact⟨.normal,m',.region (by rw[st_begin];exact hB),hQ⟩
theorem W_regionD {ck:List (Nat×Nat)} {l:List ROp} {m:M} {Q:Ex->M->Prop} (h:wpO Γ G true 0 l (m.begin l.length) (fun m'=>sepAll G m'.st l ck=true/\Q .normal m')):W Γ G (.regionD ck l) m Q:=by
 obtain⟨m',hB,hc,hQ⟩:=WO_of h
 exact⟨.normal,m',.regionD (by rw[st_begin];exact hB) hc,hQ⟩
theorem W_skip {m:M} {Q:Ex->M->Prop} (h:Q .normal m):W Γ G .skip m Q:=⟨_,_,.skip,h⟩
theorem W_ret {m:M} {Q:Ex->M->Prop} (h:Q .ret m):W Γ G .ret m Q:=⟨_,_,.ret,h⟩
theorem W_exit {m:M} {id:Nat} {Q:Ex->M->Prop} (h:Q (.exit id) m):W Γ G (.exit id) m Q:=⟨_,_,.exit,h⟩
def thenQ (K:M->Prop) (Q:Ex->M->Prop):Ex->M->Prop
 | .normal,m=>K m
 | e,m=>Q e m
theorem W_seq {a b:C} {m:M} {Q:Ex->M->Prop} (h:W Γ G a m (thenQ (fun m'=>W Γ G b m' Q) Q)):W Γ G (.seq a b) m Q:=by
 obtain⟨e,m1,h1,hQ⟩:=h
 cases e with
 | normal=>obtain⟨e,m2,h2,hQ⟩:=hQ;exact⟨e,m2,.seqN h1 h2,hQ⟩
 | exit id=>exact⟨_,m1,.seqX h1 (by simp),hQ⟩
 | ret=>exact⟨_,m1,.seqX h1 (by simp),hQ⟩
theorem W_cond {c:Opd} {a b:C} {m:M} {Q:Ex->M->Prop} {t:Bool} (hc:evBool G m.st c=some t) (h1:t=true->W Γ G a m Q) (h2:t=false->W Γ G b m Q):W Γ G (.cond c a b) m Q:=by
 cases t with
 | true=>obtain⟨e,m',h,hQ⟩:=h1 rfl;exact⟨e,m',.cond hc h,hQ⟩
 | false=>obtain⟨e,m',h,hQ⟩:=h2 rfl;exact⟨e,m',.cond hc h,hQ⟩
def blockQ (id:Nat) (Q:Ex->M->Prop) (e:Ex) (m:M):Prop:=Q (if e= .exit id then .normal else e) m
theorem W_block {id:Nat} {b:C} {m:M} {Q:Ex->M->Prop} (h:W Γ G b m (blockQ id Q)):W Γ G (.block id b) m Q:=by
 obtain⟨e,m',h,hQ⟩:=h
 exact⟨_,m',.block h,hQ⟩
theorem W_range {x:Opd} {ps:List Nat} {bd bd':C} {m:M} {Q:Ex->M->Prop} {fv:V} {g:Nat} {a b:List V} {r:V} {h':Nat->Option O} {n':Nat} {env':Nat->V} {ps':List Nat} {st:LSt} {e:Ex}
 (hfv:evl G m.st x=some fv) (hfn:fnOf fv=some (g,a,b)) (hg: ∃fn,Γ g=some fn/\fn.raw=true)
 (hc:RC Γ G g (a++[.yl m.nxt]++b) (upd m.heap m.nxt (some (.loop (fun t=>(m.sl t).v) ps bd .ready))) (m.nxt+1) r h' n')
 (hl:h' m.nxt=some (.loop env' ps' bd' st)) (he:st.ends=some e) (hQ:Q e { m with heap:=upd h' m.nxt (some .dead),nxt:=n' }):W Γ G (.rangeF x ps bd) m Q:=by
 obtain⟨fn,hg,hr⟩:=hg
 exact⟨e,_,.rangeF hfv hfn hg hr hc hl he,hQ⟩
theorem W_loop {b:C} {m:M} {Q:Ex->M->Prop} (h:WL Γ G b m Q):W Γ G (.loop b) m Q:=by
 obtain⟨e,m',h,hQ⟩:=h
 exact⟨e,m',.loop h,hQ⟩
theorem WL_step {b:C} {m:M} {Q:Ex->M->Prop} (h:W Γ G b m (thenQ (fun m'=>WL Γ G b m' Q) Q)):WL Γ G b m Q:=by
 obtain⟨e,m1,h1,hQ⟩:=h
 cases e with
 | normal=>obtain⟨e,m2,h2,hQ⟩:=hQ;exact⟨e,m2,.loopN h1 h2,hQ⟩
 | exit id=>exact⟨_,m1,.loopX h1 (by simp),hQ⟩
 | ret=>exact⟨_,m1,.loopX h1 (by simp),hQ⟩
theorem W_mono {c:C} {m:M} {Q Q':Ex->M->Prop} (h:W Γ G c m Q) (hq: ∀e m',Q e m'->Q' e m'):W Γ G c m Q':=by
 obtain⟨e,m',h,hQ⟩:=h
 exact⟨e,m',h,hq _ _ hQ⟩
theorem PC_of {g:Nat} {args:List V} {fn:F} {r:V} (hg:Γ g=some fn) (hr:fn.raw=false)
 (h:W Γ G fn.body (.init args (fun _=>none) 0) (fun e m=>(∀id,e≠ .exit id)/\ ∃v,resAll m.st fn.results=some v/\reify m.heap v=some r)):PC Γ G g args r:=by
 obtain⟨e,m',hB,he,v,hv,hre⟩:=h
 exact .pcall hg hr hB he hv hre
end
end Rg
end
