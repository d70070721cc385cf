/- Part of the proof of laws of relyguardlaw31. No condition. -/
import Derived.Test.YtcmeofagpechdaaGreatDoorPartBB
set_option linter.unusedSimpArgs false
set_option linter.unusedVariables false
section
namespace Rg
open Go
def rowsV (f:Nat->Nat->Nat):List V:=(List.range 256).map fun j=> .t (.int .u64 (f (j/ 64) (j % 64):Nat))
theorem zaU (f:Nat->Nat->Nat):(rowsV f).length=256:=by simp[rowsV]
def restV (ld qk:Nat->Nat->Nat) (kn:Nat):List V:=rowsV ld++rowsV qk++[.mm kn]
theorem zdr (ld qk:Nat->Nat->Nat) (kn:Nat):(restV ld qk kn).length=513:=by simp[restV,zaU]
abbrev rowG (cs ms ls ts:List (List T)) (model:Int) (al:List (List T)) (cv mv:V) (ld qk:Nat->Nat->Nat) (kn:Nat):List V:=
 .t (.sl cs):: .t (.sl ms):: .t (.sl ls):: .t (.sl ts):: .t (.int .i64 model):: .t (.sl al)::cv::mv::restV ld qk kn
def Shw (H:Nat->Option O) (v:V) (sz:Nat) (es:List (List T)):Prop:=(v= .t .nils/\es=[])\/ ∃k f,v= .ms k 0 es.length/\H k=some (.rows sz (es.map (·.map V.t)) f)
theorem Shw.toT {H:Nat->Option O} {v:V} {sz:Nat} {es:List (List T)} (h:Shw H v sz es) (hn: ∀e∈es,∀t∈e,T.norm t=t) (d:Nat):toT H (d+1) v=some (.sl es):=by
 rcases h with⟨rfl,rfl⟩ | ⟨k,f,rfl,hk⟩
 ·rfl
 ·have h1:=zef H d es hn;simp only[Rg.toT,hk]
  rw[show rd (es.map (·.map V.t)) 0 es.length=some (es.map (·.map V.t))by
   simp only[rd,List.length_map,Nat.zero_add,Nat.le_refl,if_true,List.drop_zero];rw[List.take_of_length_le (by simp)]]
  simp only[zC,zD,h1]
theorem Shw.valOf {H:Nat->Option O} {v:V} {sz:Nat} {es:List (List T)} (h:Shw H v sz es):valOf v=some v:=by
 rcases h with⟨rfl,rfl⟩ | ⟨k,f,rfl,hk⟩<;>rfl
theorem Shw.isTr {H:Nat->Option O} {v:V} {sz:Nat} {es:List (List T)} (h:Shw H v sz es):v.one=true:=by
 rcases h with⟨rfl,rfl⟩ | ⟨k,f,rfl,hk⟩<;>rfl
def zpc (es:List (List T)):Prop:= ∀e∈es,∀t∈e,T.norm t=t
theorem rowsV_toT (H:Nat->Option O) (d:Nat) (f:Nat->Nat->Nat):(rowsV f).mapM (toT H d)=some (rowsT f):=by
 refine zbd _ _ _ (fun i a ha=> ?_) (by simp[rowsV,rowsT]);simp only[rowsV,rowsT,zJ,zE]at ha⊢;obtain⟨x,hx,rfl⟩:=ha;exact⟨_,⟨x,hx,rfl⟩,by cases d<;>rfl⟩
theorem mapM_app {α β:Type} (f:α->Option β): ∀{a b:List α} {x y:List β},a.mapM f=some x->b.mapM f=some y->(a++b).mapM f=some (x++y):=by
 intro a b x y ha hb;rw[List.mapM_append,ha,hb];rfl
theorem zeT {H:Nat->Option O} {kG kn:Nat} {cs ms ls ts al ce me:List (List T)} {model:Int} {cv mv:V} {ld qk:Nat->Nat->Nat} {es:List (T×V)} {fz:Bool}
 (hG:H kG=some (.rows 521 [rowG cs ms ls ts model al cv mv ld qk kn] fz)) (hc:Shw H cv 1 ce) (hcn:zpc ce) (hm:Shw H mv 1 me) (hmn:zpc me) (hk:H kn=some (.map es)):
 toT1 H (.mp kG 0 0)=some (.t (.ip (.sl cs:: .sl ms:: .sl ls:: .sl ts:: .int .i64 model:: .sl al:: .sl ce:: .sl me::(rowsT ld++rowsT qk++[.opq])))):=by
 have hr:(restV ld qk kn).mapM (toT H 999)=some (rowsT ld++rowsT qk++[.opq]):=by
  refine mapM_app _ (mapM_app _ (rowsV_toT H 999 ld) (rowsV_toT H 999 qk)) ?_;rw[List.mapM_cons,show toT H 999 (.mm kn)=some .opq by rw[show 999=998+1 from rfl];simp only[toT,hk]];rfl
 have h1:=hc.toT hcn 998;have h2:=hm.toT hmn 998;have hx: ∀x:T,toT H 999 (.t x)=some x.norm:=fun x=>rfl
 have hrow:(rowG cs ms ls ts model al cv mv ld qk kn).mapM (toT H 999)=some (.sl cs:: .sl ms:: .sl ls:: .sl ts:: .int .i64 model:: .sl al:: .sl ce:: .sl me::(rowsT ld++rowsT qk++[.opq])):=by
  simp only[rowG,List.mapM_cons,hx,h1,h2,hr,T.norm];rfl
 have:toT H 1000 (.mp kG 0 0)=some (.ip (.sl cs:: .sl ms:: .sl ls:: .sl ts:: .int .i64 model:: .sl al:: .sl ce:: .sl me::(rowsT ld++rowsT qk++[.opq]))):=by
  rw[show 1000=999+1 from rfl];simp only[toT,hG];show(do let row<- [rowG cs ms ls ts model al cv mv ld qk kn][0]?;let cs<- (row.drop 0).mapM (toT H 999);some (T.ip cs))=_;simp only[List.getElem?_cons_zero,List.drop_zero,zC,zD,hrow]
 show(toT H 1000 (.mp kG 0 0)).map V.t=_;rw[this];rfl
theorem gstepH_den {H:Nat->Option O} {kG:Nat} {row:List V} {fz:Bool} (n:Nat) (p:Prog) (t k:Nat) (x:Int) (w:Bool) {y:Thread} {s:Step}
 (hG:H kG=some (.rows 521 [.t (.sl (p.cells.map Cell.enc)):: .t (.sl (p.modules.map Contract.enc)):: .t (.sl (p.locks.map Lock.enc)):: .t (.sl (p.threads.map Thread.enc))::row] fz))
 (ht:p.threads[t]? =some y) (hk:y.steps[k]? =some s):
 ∃r h' n',DenR Γ G 310 [.mp kG 0 0,.agg [vi t,vi k,vi x,vb w]] H n=some (r,h',n')/\r=(.agg [.t (ti (s).kind),.t (ti (s).fr),.t (ti (s).to),.t (ti ((s).guard).op),.t (ti ((s).guard).w),.t (ti ((s).guard).n),.t (.sl (((s).guard).kids.map Expr.enc)),.t (.sl ((s).set.map Assign.enc)),.t (tb (s).release),.t (ti (s).target),.t (ti (s).module)])/\h'=H/\n<=n':=by
 have hb:=(zH.1 ht).1;have hb2:=(zH.1 hk).1
 (refine denR_ofY Γ310 rfl ?_;dsimp only[zqg])
 simp -dsimp only[go_sem,seval,hG,ht,hk];refine⟨rfl,rfl,?_⟩;simp -dsimp only[go_sem,seval];omega
def updR (f:Nat->Nat->Nat) (k:Nat) (l:List Nat):Nat->Nat->Nat:=fun t i=>if t=k then l.getD i 0 else f t i
theorem zf2 (f:Nat->Nat->Nat) {j:Nat} (h:j<256):(rowsV f)[j]? =some (.t (.int .u64 (f (j/ 64) (j % 64):Nat))):=by
 simp only[rowsV,zJ];rw[List.getElem?_range h];rfl
theorem ziB (f:Nat->Nat->Nat) {k:Nat} {l:List Nat} (hk:k<4) (hl:l.length=64):List.take (k*64) (rowsV f)++arr l++List.drop (k*64+64) (rowsV f)=rowsV (updR f k l):=by
 have h1:(List.take (k*64) (rowsV f)).length=k*64:=by rw[List.length_take,zaU];omega
 refine List.ext_getElem? fun j=> ?_
 rcases Nat.lt_or_ge j 256 with hj | hj
 ·rw[zf2 _ hj];rcases Nat.lt_or_ge j (k*64)with h2 | h2
  ·rw[List.append_assoc,List.getElem?_append_left (by omega),List.getElem?_take,if_pos h2,zf2 _ hj];have:j/ 64≠k:=by omega
   simp[updR,this]
  ·rcases Nat.lt_or_ge j (k*64+64)with h3 | h3
   ·rw[List.append_assoc,List.getElem?_append_right (by omega),h1,List.getElem?_append_left (by rw[zbb];omega)];have e1:j/ 64=k:=by omega
    have e2:j-k*64=j % 64:=by omega
    have h4:j % 64<l.length:=by omega
    simp[arr,updR,e1,e2,List.getD_eq_getElem?_getD,zI h4]
   ·rw[List.getElem?_append_right (by rw[List.length_append,zbb];omega),List.length_append,zbb,h1,hl,List.getElem?_drop,show k*64+64+(j-(k*64+64))=j by omega,zf2 _ hj];have:j/ 64≠k:=by omega
    simp[updR,this]
 ·rw[List.getElem?_eq_none (by rw[List.length_append,List.length_append,zbb,h1,List.length_drop,zaU];omega),List.getElem?_eq_none (by rw[zaU];omega)]
theorem wrA {a b l:List V} {m:Nat} (h:m+64<=a.length):List.take m (a++b)++l++List.drop (m+64) (a++b)=(List.take m a++l++List.drop (m+64) a)++b:=by
 rw[List.take_append_of_le_length (by omega),List.drop_append_of_le_length h];simp only[List.append_assoc]
theorem wrB {a b l:List V} {m:Nat}:List.take (a.length+m) (a++b)++l++List.drop (a.length+(m+64)) (a++b)=a++(List.take m b++l++List.drop (m+64) b):=by
 rw[List.take_length_add_append,List.drop_length_add_append];simp only[List.append_assoc]
theorem zom {cs ms ls ts al:List (List T)} {model:Int} {cv mv:V} {ld qk:Nat->Nat->Nat} {kn k:Nat} {l:List Nat} (hk:k<4) (hl:l.length=64):
 List.take (8+k*64) (rowG cs ms ls ts model al cv mv ld qk kn)++arr l++List.drop (8+k*64+64) (rowG cs ms ls ts model al cv mv ld qk kn)=rowG cs ms ls ts model al cv mv (updR ld k l) qk kn:=by
 have e:List.take (k*64) (restV ld qk kn)++arr l++List.drop (k*64+64) (restV ld qk kn)=restV (updR ld k l) qk kn:=by
  unfold restV;rw[List.append_assoc (rowsV ld),wrA (by rw[zaU];omega),ziB ld hk hl,List.append_assoc]
 rw[show 8+k*64=k*64+1+1+1+1+1+1+1+1 by omega,show k*64+1+1+1+1+1+1+1+1+64=k*64+64+1+1+1+1+1+1+1+1 by omega];simp only[rowG,List.take_succ_cons,List.drop_succ_cons,List.cons_append];rw[e]
theorem zol {cs ms ls ts al:List (List T)} {model:Int} {cv mv:V} {ld qk:Nat->Nat->Nat} {kn k:Nat} {l:List Nat} (hk:k<4) (hl:l.length=64):
 List.take (264+k*64) (rowG cs ms ls ts model al cv mv ld qk kn)++arr l++List.drop (264+k*64+64) (rowG cs ms ls ts model al cv mv ld qk kn)=rowG cs ms ls ts model al cv mv ld (updR qk k l) kn:=by
 have e:List.take (256+k*64) (restV ld qk kn)++arr l++List.drop (256+(k*64+64)) (restV ld qk kn)=restV ld (updR qk k l) kn:=by
  have:=wrB (a:=rowsV ld) (b:=rowsV qk++[.mm kn]) (l:=arr l) (m:=k*64);rw[zaU,wrA (by rw[zaU];omega),ziB qk hk hl,<- List.append_assoc,<- List.append_assoc]at this;exact this
 rw[show 264+k*64=256+k*64+1+1+1+1+1+1+1+1 by omega,show 256+k*64+1+1+1+1+1+1+1+1+64=256+(k*64+64)+1+1+1+1+1+1+1+1 by omega];simp only[rowG,List.take_succ_cons,List.drop_succ_cons,List.cons_append];rw[e]
theorem zmF {cs ms ls ts al:List (List T)} {model:Int} {cv mv:V} {ld qk:Nat->Nat->Nat} {kn k:Nat} {l:List Nat} (hk:k<4) (hl:l.length=64):
 List.take (8+k*64) (rowG cs ms ls ts model al cv mv ld qk kn)++arr l++List.drop (8+k*64+56) (restV ld qk kn)=rowG cs ms ls ts model al cv mv (updR ld k l) qk kn:=by
 rw[<- zom hk hl];rfl
theorem zmE {cs ms ls ts al:List (List T)} {model:Int} {cv mv:V} {ld qk:Nat->Nat->Nat} {kn k:Nat} {l:List Nat} (hk:k<4) (hl:l.length=64):
 List.take (264+k*64) (rowG cs ms ls ts model al cv mv ld qk kn)++arr l++List.drop (264+k*64+56) (restV ld qk kn)=rowG cs ms ls ts model al cv mv ld (updR qk k l) kn:=by
 rw[<- zol hk hl];rfl
end Rg
end
section
namespace Rg
open Go
structure GrObj (H:Nat->Option O) (n kG:Nat) (p:Prog) (model:Int) (g:Gr):Prop where
 ex: ∃cv kM kn,H kG=some (.rows 521 [rowG (p.cells.map Cell.enc) (p.modules.map Contract.enc) (p.locks.map Lock.enc) (p.threads.map Thread.enc) model (g.all.map Acc.enc) cv (.ms kM 0 g.msk.length) g.ldAt g.qkAt kn] false)/\
  OwnB H n cv 1 (rowsI (g.cls.map fun c:Nat=>(c:Int)))/\H kM=some (.rows 1 (rowsU g.msk) false)/\H kn=some (.map [])/\kG<n/\kM<n/\kn<n
abbrev zu:V:=.t (.int .u64 0)
def zgO:List V:=List.replicate 512 zu++[.t .nilm]
set_option maxRecDepth 20000 in
theorem zob: [zn,zn,zn,zn,zi,zn,zn,zn,zu,zu,zu,zu,zu,zu,zu,zu,zu,zu,zu,zu,zu,zu,zu,zu,zu,zu,zu,zu,zu,zu,zu,zu,zu,zu,zu,zu,zu,zu,zu,zu,zu,zu,zu,zu,zu,zu,zu,zu,zu,zu,zu,zu,zu,zu,zu,zu,zu,zu,
 zu,zu,zu,zu,zu,zu,zu,zu,zu,zu,zu,zu,zu,zu,zu,zu,zu,zu,zu,zu,zu,zu,zu,zu,zu,zu,zu,zu,zu,zu,zu,zu,zu,zu,zu,zu,zu,zu,zu,zu,zu,zu,zu,zu,zu,zu,zu,zu,zu,zu,
 zu,zu,zu,zu,zu,zu,zu,zu,zu,zu,zu,zu,zu,zu,zu,zu,zu,zu,zu,zu,zu,zu,zu,zu,zu,zu,zu,zu,zu,zu,zu,zu,zu,zu,zu,zu,zu,zu,zu,zu,zu,zu,zu,zu,zu,zu,zu,zu,zu,zu,
 zu,zu,zu,zu,zu,zu,zu,zu,zu,zu,zu,zu,zu,zu,zu,zu,zu,zu,zu,zu,zu,zu,zu,zu,zu,zu,zu,zu,zu,zu,zu,zu,zu,zu,zu,zu,zu,zu,zu,zu,zu,zu,zu,zu,zu,zu,zu,zu,zu,zu,
 zu,zu,zu,zu,zu,zu,zu,zu,zu,zu,zu,zu,zu,zu,zu,zu,zu,zu,zu,zu,zu,zu,zu,zu,zu,zu,zu,zu,zu,zu,zu,zu,zu,zu,zu,zu,zu,zu,zu,zu,zu,zu,zu,zu,zu,zu,zu,zu,zu,zu,
 zu,zu,zu,zu,zu,zu,zu,zu,zu,zu,zu,zu,zu,zu,zu,zu,zu,zu,zu,zu,zu,zu,zu,zu,zu,zu,zu,zu,zu,zu,zu,zu,zu,zu,zu,zu,zu,zu,zu,zu,zu,zu,zu,zu,zu,zu,zu,zu,zu,zu,
 zu,zu,zu,zu,zu,zu,zu,zu,zu,zu,zu,zu,zu,zu,zu,zu,zu,zu,zu,zu,zu,zu,zu,zu,zu,zu,zu,zu,zu,zu,zu,zu,zu,zu,zu,zu,zu,zu,zu,zu,zu,zu,zu,zu,zu,zu,zu,zu,zu,zu,
 zu,zu,zu,zu,zu,zu,zu,zu,zu,zu,zu,zu,zu,zu,zu,zu,zu,zu,zu,zu,zu,zu,zu,zu,zu,zu,zu,zu,zu,zu,zu,zu,zu,zu,zu,zu,zu,zu,zu,zu,zu,zu,zu,zu,zu,zu,zu,zu,zu,zu,
 zu,zu,zu,zu,zu,zu,zu,zu,zu,zu,zu,zu,zu,zu,zu,zu,zu,zu,zu,zu,zu,zu,zu,zu,zu,zu,zu,zu,zu,zu,zu,zu,zu,zu,zu,zu,zu,zu,zu,zu,zu,zu,zu,zu,zu,zu,zu,zu,zu,zu,
 zu,zu,zu,zu,zu,zu,zu,zu,zu,zu,zu,zu,zu,zu,zu,zu,zu,zu,zu,zu,zu,zu,zu,zu,zu,zu,zu,zu,zu,zu,zu,zu,zu,zu,zu,zu,zu,zu,zu,zu,zu,zu,zu,zu,zu,zu,zu,zu,zu,zu,
 zu,zu,zu,zu,zu,zu,zu,zu,zu,zu,zu,zu,.t .nilm]=zn::zn::zn::zn::zi::zn::zn::zn::zgO:=rfl
theorem zgN:zgO.length=513:=by simp only[zgO,List.length_append,List.length_replicate,List.length_cons,List.length_nil]
theorem zkv (k:Nat):List.take 512 zgO++[.mm k]++List.drop 513 zgO=restV (fun _ _=>0) (fun _ _=>0) k:=by
 have e: ∀f:Nat->Nat->Nat,(∀a b,f a b=0)->rowsV f=List.replicate 256 zu:=by
  intro f hf;rw[List.eq_replicate_iff];refine⟨zaU f,fun x hx=> ?_⟩;simp only[rowsV,List.mem_map]at hx;obtain⟨j,_,rfl⟩:=hx;rw[hf];rfl
 have h1:List.take 512 zgO=List.replicate 512 zu:=by
  rw[zgO,List.take_append_of_le_length (by rw[List.length_replicate];exact Nat.le_refl _),List.take_of_length_le (by rw[List.length_replicate];exact Nat.le_refl _)]
 have h2:List.drop 513 zgO=[]:=List.drop_of_length_le (by rw[zgN];exact Nat.le_refl _);rw[h1,h2,restV,e _ (fun _ _=>rfl),List.replicate_append_replicate,List.append_nil]
def mskN (p:Prog) (i:Nat):List Nat:=(List.range (p.threads.length*(2*(p.cells.length+p.threads.length)))).map fun c=>((accsM p).take i).foldl (fun m a=>if clsM p a=c then m ||| 1<<< a.st else m) 0
theorem zcX (p:Prog) (i:Nat):(mskN p i).length=p.threads.length*(2*(p.cells.length+p.threads.length)):=by simp[mskN]
theorem zkV (p:Prog):mskN p 0=List.replicate (p.threads.length*(2*(p.cells.length+p.threads.length))) 0:=by
 refine List.ext_getElem (by simp[mskN]) fun i h1 h2=> ?_
 simp[mskN]
theorem mskN_at (p:Prog) (i:Nat) {c:Nat} (h:c<p.threads.length*(2*(p.cells.length+p.threads.length))):(mskN p i)[c]? =some (((accsM p).take i).foldl (fun m a=>if clsM p a=c then m ||| 1<<< a.st else m) 0):=by
 simp only[mskN,zJ,List.getElem?_range h,Option.map_some]
theorem zkW (p:Prog) {i m:Nat} {a:Acc} (ha:(accsM p)[i]? =some a) (hm:(mskN p i)[clsM p a]? =some m):mskN p (i+1)=(mskN p i).set (clsM p a) (m ||| 1<<< a.st):=by
 refine List.ext_getElem? fun c=> ?_
 by_cases hc:c<p.threads.length*(2*(p.cells.length+p.threads.length))
 ·rw[mskN_at p (i+1) hc,zae ha,List.foldl_append,List.getElem?_set]
  by_cases h:clsM p a=c
  ·subst h;rw[mskN_at p i hc]at hm;simp[zcX,hc,Option.some.inj hm]
  ·rw[if_neg h,mskN_at p i hc];simp[h]
 ·rw[List.getElem?_eq_none (by rw[zcX];omega),List.getElem?_eq_none (by rw[List.length_set,zcX];omega)]
theorem zoI (p:Prog) (hp:p.ok) {i c m:Nat} (h:(mskN p i)[c]? =some m):m<2^64:=by
 have hc:=(zH.1 h).1;rw[zcX]at hc;rw[mskN_at p i hc]at h;cases h;refine Nat.lt_pow_two_of_testBit _ fun j hj=> ?_
 cases hb:(List.foldl (fun m a=>if clsM p a=c then m ||| 1<<< a.st else m) 0 ((accsM p).take i)).testBit j
 ·rfl
 ·have:=zcE (fun a:Acc=>decide (clsM p a=c)) (fun a=>a.st) j ((accsM p).take i) 0;simp only[decide_eq_true_eq]at this;rw[hb]at this;have h2:=this.symm;simp only[Nat.zero_testBit,Bool.false_or,List.any_eq_true,zF,decide_eq_true_eq]at h2;obtain⟨a,h1,_,h3⟩:=h2;have:=(ok_acc hp (List.mem_of_mem_take h1)).2.1;omega
theorem OwnB.shw {h:Nat->Option O} {x:Nat} {v:V} {sz:Nat} {es:List (List T)} (o:OwnB h x v sz (es.map (·.map V.t))):Shw h v sz es:=by
 rcases o with⟨rfl,he⟩ | ⟨k,rfl,_,hk⟩
 ·exact .inl ⟨rfl,by simpa using he⟩
 ·exact .inr ⟨k,false,by simp,hk⟩
theorem OwnB.updO {h:Nat->Option O} {x k sz:Nat} {v:V} {rows:List (List V)} (o:OwnB h x v sz rows) (hk:zc1 v k) (b:Option O):OwnB (updC h k b) x v sz rows:=by
 rcases o with o | ⟨q,rfl,h2,h3⟩
 ·exact .inl o
 ·refine .inr ⟨q,rfl,h2,?_⟩;have:q≠k:=by rintro rfl;exact hk _ _ rfl
  rw[zac,if_neg this];exact h3
theorem OwnB.msE {h:Nat->Option O} {x sz:Nat} {v:V} {rows:List (List V)} (o:OwnB h x v sz rows) (hn:rows≠[]): ∃k m,v= .ms k 0 m:=by
 rcases o with⟨_,h1⟩ | ⟨q,h1,_,_⟩
 ·exact absurd h1 hn
 ·exact⟨_,_,h1⟩
theorem OwnB.offM {h:Nat->Option O} {x k sz:Nat} {v:V} {rows:List (List V)} {es:List (T×V)} (o:OwnB h x v sz rows) (hk:h k=some (.map es)):zc1 v k:=by
 rcases o with⟨rfl,_⟩ | ⟨q,rfl,_,hq⟩
 ·intro i n he;cases he
 ·refine offK_ms ?_ _ _;rintro rfl;rw[hq]at hk;cases hk
def fstR (f:Nat->Nat->Nat) (k:Nat):Nat->Nat->Nat:=fun t i=>if t<k then f t i else 0
theorem u64_norm (l:List Nat):zpc (l.map fun x:Nat=>[T.int .u64 x]):=by
 intro e he t ht;obtain⟨x,_,rfl⟩:=List.mem_map.1 he;simp only[List.mem_cons,List.not_mem_nil,or_false]at ht;rw[ht];rfl
theorem zok (l:List Nat):rowsU l=(l.map fun x:Nat=>[T.int .u64 x]).map (·.map V.t):=by simp[rowsU]
theorem msk_shw {h:Nat->Option O} {k m:Nat} {l:List Nat} {f:Bool} (hk:h k=some (.rows 1 (rowsU l) f)) (hm:m=l.length):Shw h (.ms k 0 m) 1 (l.map fun x:Nat=>[T.int .u64 x]):=
 .inr ⟨k,f,by simp[hm],by rw[hk,zok]⟩
set_option maxHeartbeats 4000000
set_option maxRecDepth 4000
theorem build_den (p:Prog) (hp:p.ok) (hset: ∀x∈p.threads,∀s∈x.steps,s.set.length<2^20) (model:Int) (H:Nat->Option O) (n:Nat):
 ∃r h' n',DenR Γ G 300 [(.agg [.t (.sl ((p).cells.map (Cell.enc))),.t (.sl ((p).modules.map (Contract.enc))),.t (.sl ((p).locks.map (Lock.enc))),.t (.sl ((p).threads.map (Thread.enc)))]),vi model] H n=some (r,h',n')/\(∃kG,r= .mp kG 0 0/\GrObj h' n' kG p model (grM p model)):=by
 have hac:=znL p hp hset
 (refine denR_ofY Γ300 rfl ?_;dsimp only[f300])
 rw[zob];have hzl:=zgN;have hrs:=zkv (n+2+4)
 have hT:toT1 (updC (updC H (n+2+4) (some (.map []))) (n+2+6) (some (.rows 521 [rowG (p.cells.map Cell.enc) (p.modules.map Contract.enc) (p.locks.map Lock.enc) (p.threads.map Thread.enc) model ((accsM p).map Acc.enc) zn zn (fun _ _=>0) (fun _ _=>0) (n+2+4)] false))) (.mp (n+2+6) 0 0)=
  some (.t (.ip (.sl (p.cells.map Cell.enc):: .sl (p.modules.map Contract.enc):: .sl (p.locks.map Lock.enc):: .sl (p.threads.map Thread.enc):: .int .i64 model:: .sl ((accsM p).map Acc.enc):: .sl []:: .sl []::(rowsT (fun _ _=>0)++rowsT (fun _ _=>0)++[.opq])))):=by
  refine zeT (by rw[zac,if_pos rfl]) (.inl ⟨rfl,rfl⟩) (fun e h=>by cases h) (.inl ⟨rfl,rfl⟩) (fun e h=>by cases h) (by rw[zac,if_neg (by omega),zac,if_pos rfl])
 have hrl:=zdr (fun _ _=>0) (fun _ _=>0) (n+2+4);obtain⟨⟨l1,l2,l3,l4⟩,l5⟩:=limits_iff.1 (ok_iff.1 hp).lim;have hN:p.threads.length*(2*(p.cells.length+p.threads.length))<=4*72:=Nat.mul_le_mul l4 (by omega)
 have hmul:IntKind.i64.wrap ((p.threads.length:Int)*(2*((p.cells.length:Int)+p.threads.length)))=((p.threads.length*(2*(p.cells.length+p.threads.length)):Nat):Int):=by
  rw[show(p.threads.length:Int)*(2*((p.cells.length:Int)+p.threads.length))=((p.threads.length*(2*(p.cells.length+p.threads.length)):Nat):Int)by push_cast;rfl,zan (by omega)]
 have hsz: ∀tl,Den Γ G 309 [.t (.ip (.sl (p.cells.map Cell.enc):: .sl (p.modules.map Contract.enc):: .sl (p.locks.map Lock.enc):: .sl (p.threads.map Thread.enc)::tl))]=some (vi (2*((p.cells.length:Int)+p.threads.length))):=by
  intro tl;have:=zeS (p.cells.map Cell.enc) (p.modules.map Contract.enc) (p.locks.map Lock.enc) (p.threads.map Thread.enc) tl (by simp;omega) (by simp;omega);simpa using this
 generalize hNe:p.threads.length*(2*(p.cells.length+p.threads.length))=N at hN hmul
 have hc1:((N:Int)<0)=False:=by simp
 have hc2:((N:Int)<=N)=True:=by simp
 have hc3:((N:Int)<=4294967296)=True:=by simp;omega
 have hn9:(n=n+9)=False:=by simp
 have hq1:(n+9=n)=False:=by simp
 have hq2:(n=n+2)=False:=by simp
 have hq3:(n+2=n)=False:=by simp
 have hq4:(n=n+11)=False:=by simp
 have hq5:(n+11=n)=False:=by simp
 simp -dsimp only[go_sem,seval,hac,hzl,hrs,hrl,↓hT,hsz,hmul,hc1,hc2,hc3,hn9];rw[zfp]
 generalize hAL:accsM p=AL at hac
 refine zaj 309485009821345060134846848 AL.length (fun i f h x=>(f 33).v=vi i/\n+18<=x/\h (n+2+8+7)=some (.rows 1 (rowsU (mskN p i)) false)/\h (n+2+4)=some (.map [])/\ ∃cv,OwnB h x cv 1 (rowsI ((AL.take i).map fun a=>((clsM p a:Nat):Int)))/\zc1 cv (n+2+8+7)/\
  h (n+2+6)=some (.rows 521 [rowG (p.cells.map Cell.enc) (p.modules.map Contract.enc) (p.locks.map Lock.enc) (p.threads.map Thread.enc) model (AL.map Acc.enc) cv (.ms (n+2+8+7) 0 N) (fun _ _=>0) (fun _ _=>0) (n+2+4)] false)) rfl ?_ ?_
 ·refine⟨by simp -dsimp only[go_sem,seval],by simp -dsimp only[go_sem,seval];omega,?_,?_,zn,.inl ⟨rfl,rfl⟩,(fun i m h=>by cases h),?_⟩
  ·rw[zkV,hNe];simp -dsimp only[go_sem,seval];rw[if_neg (by omega)]
  ·simp -dsimp only[go_sem,seval];rw[if_neg (by omega),if_neg (by omega),if_neg (by omega)]
  ·simp -dsimp only[go_sem,seval]
 ·clear hT hrs hzl hrl;rintro i f u Hh z bs hi ⟨h33,hz,hM,hK,cv,hO,hof,hG⟩
  have hw:=zah i (by have:AL.length<2^20:=by
                      rw[<- hAL];have:=zb9 p l1 (fun x hx=>(l5 x hx).2.1) _ (Nat.le_refl _);unfold accsM;omega
                     omega)
  simp -dsimp only[go_sem,seval,h33];refine csplit (fun h=> ?_) (fun h=> ?_)<;>(try rw[h])<;>(try simp only[zab]at h)<;>(try simp -dsimp only[go_sem,seval,h33])
  ·obtain⟨a,ha,ham⟩:=zaf ‹i<AL.length›;rw[<- hAL]at ham;obtain⟨x,s,hx,hs,_⟩:=zel.1 ham;have hok:=ok_acc hp ham
   have hT:=zeT hG (OwnB.shw (es:=(AL.take i).map fun a=>[ti (clsM p a)]) (by
    have e:rowsI ((AL.take i).map fun a=>((clsM p a:Nat):Int))=((AL.take i).map fun a=>[ti (clsM p a)]).map (·.map V.t):=by simp only[rowsI,List.map_map];rfl
    rw[<- e];exact hO)) (by
    intro e he t ht;obtain⟨y,_,rfl⟩:=List.mem_map.1 he;simp only[List.mem_cons,List.not_mem_nil,or_false]at ht
    rw[ht];rfl) (msk_shw hM (by rw[zcX,hNe])) (u64_norm _) hK
   have hb:=(clsM_bounds hp ham).2;rw[hNe]at hb;have hat:=(mskN_at p i (c:=clsM p a) (by rw[hNe];exact hb))
   generalize(List.foldl (fun m b=>if clsM p b=clsM p a then m ||| 1<<< b.st else m) 0 ((accsM p).take i))=m0 at hat
   have hm0:=zoI p hp hat;have hsucc:=zkW p (by rw[hAL];exact ha) hat;have hma:a.th*(2*(p.cells.length+p.threads.length))<=4*72:=Nat.mul_le_mul (by omega) (by omega)
   have hm1:IntKind.i64.wrap ((a.th:Int)*(2*((p.cells.length:Int)+p.threads.length)))=((a.th*(2*(p.cells.length+p.threads.length)):Nat):Int):=by
    rw[show(a.th:Int)*(2*((p.cells.length:Int)+p.threads.length))=((a.th*(2*(p.cells.length+p.threads.length)):Nat):Int)by push_cast;rfl,zan (by omega)]
   have hm2:IntKind.i64.wrap (2*(a.ce:Int))=((2*a.ce:Nat):Int):=by rw[zan (by omega)];push_cast;rfl
   have hcl:clsM p a=a.th*(2*(p.cells.length+p.threads.length))+2*a.ce+if(a.wr&&decide (a.ce<p.cells.length))||decide ((p.stepAt a.th a.st).kind=7)then 1 else 0:=rfl
   rw[zet hx hs]at hcl
   generalize a.th*(2*(p.cells.length+p.threads.length))=M at hm1 hma hcl
   have hm3:IntKind.i64.wrap ((M:Int)+((2*a.ce:Nat):Int))=((M+2*a.ce:Nat):Int):=by rw[zan (by omega)];push_cast;rfl
   have hm4:IntKind.i64.wrap (((M+2*a.ce:Nat):Int)+1)=((M+2*a.ce+1:Nat):Int):=by rw[zan (by omega)];push_cast;rfl
   have ht2:(p.threads.map Thread.enc)[a.th]? =some x.enc:=by rw[zJ,hx];rfl
   have hln:(rowsI ((AL.take i).map fun a=>((clsM p a:Nat):Int))).length<2^32:=by
    have:=zb9 p l1 (fun x hx=>(l5 x hx).2.1) _ (Nat.le_refl _);rw[zai,List.length_map,List.length_take,<- hAL];unfold accsM;omega
   have hsnoc:rowsI ((AL.take i).map fun a=>((clsM p a:Nat):Int))++[[V.t (T.int .i64 (clsM p a))]]=rowsI ((AL.take (i+1)).map fun a=>((clsM p a:Nat):Int)):=by
    rw[zae ha];simp[rowsI]
   have hrow:=zcS hat;have hrlen:(rowsU (mskN p i)).length=N:=by rw[zbJ,zcX,hNe]
   have hcb:((clsM p a:Int)<N)=True:=by simp;omega
   have hs1:=zmo (i:=a.st) hok.2.1;have hor:=zpd hm0 (one_lt (i:=a.st) hok.2.1);simp -dsimp only[go_sem,seval,h33,ha,↓hT,hsz,hm1,hm2,hm3]
   by_cases hA:a.wr=true/\a.ce<p.cells.length
   ·obtain⟨hA1,hA2⟩:=hA;have hA3:((a.ce:Int)<p.cells.length)=True:=by simp;omega
    rw[hA1,decide_eq_true hA2,Bool.true_and,Bool.true_or,if_pos rfl]at hcl;rw[<- hcl]at hm4;have v1:=hO.valOf;have hO0:=hO.le (y:=z+1) (by omega);have v5:=hO0.r5;simp -dsimp only[go_sem,seval,hA1,hA2,hA3,hm4,hG,v1,v5];refine zas (hO0.upd (by omega) _) (by omega) hln (by decide) rfl (rowsI_all _) ?_;intro v hp' hO2 hoffs hkeep;obtain⟨kv,mv,rfl⟩:=hO2.msE (by simp);have yG:=hkeep (n+2+6) (by omega) (hO.offR hG (by decide));have yM:=hkeep (n+2+8+7) (by omega) hof;have yK:=hkeep (n+2+4) (by omega) (hO.offM hK);rw[zac,if_neg (by omega),hG]at yG;rw[zac,if_neg (by omega),hM]at yM;rw[zac,if_neg (by omega),hK]at yK;have k1:=hoffs (n+2+8+7) (by omega);have k2:=hoffs (n+2+6) (by omega);rw[hsnoc]at hO2;simp -dsimp only[go_sem,seval,yG,yM,yK,hrow,hrlen,hcb,hs1,hor,h33,hn9,hq1,hq2,hq3,hq4,hq5];refine⟨by omega,by simp -dsimp only[go_sem,seval,h33,hw],by simp -dsimp only[go_sem,seval];omega,by simp -dsimp only[go_sem,seval,zbI,hsucc],by simp -dsimp only[go_sem,seval,yK,hq2,hq4],.ms kv 0 mv,?_,k1,by simp -dsimp only[go_sem,seval,hq1,hn9]⟩;simp -dsimp only[go_sem,seval];refine((hO2.updO k2 _).updO k1 _).le ?_;omega
   ·have hwc:a.wr=false\/(a.wr=true/\((a.ce:Int)<p.cells.length)=False):=by
     cases hwr:a.wr
     ·exact .inl rfl
     ·refine .inr ⟨rfl,?_⟩;have : ¬a.ce<p.cells.length:=fun h=>hA ⟨hwr,h⟩
      simp;omega
    have hfl:(a.wr&&decide (a.ce<p.cells.length))=false:=by
     rcases hwc with h | ⟨h,h2⟩
     ·rw[h];rfl
     ·simp at h2;rw[h];simp;omega
    rw[hfl,Bool.false_or]at hcl;have v1:=hO.valOf;rcases hwc with hw1 | ⟨hw1,hw2⟩
    all_goals
     first | simp -dsimp only[go_sem,seval,hw2,hw1] | simp -dsimp only[go_sem,seval,hw1]
     refine zav (gstepH_den _ p a.th a.st _ _ hG hx hs) ?_;rintro r h' n' ⟨rfl,rfl,hn'⟩
     have hzn:z<=n':=by
      refine Nat.le_trans ?_ hn';omega
     have hO0:=hO.le hzn;have v2:=hO0.r1;have v3:=hO0.r2;have v4:=hO0.r3;have v5:=hO0.r4
     by_cases hk:s.kind=7
     ·rw[decide_eq_true hk,if_pos rfl]at hcl;rw[<- hcl]at hm4;simp -dsimp only[go_sem,seval,hk,hm4,hG,v1,v2,v3,v4,v5];refine zas (hO0.upd (by omega) _) (by omega) hln (by decide) rfl (rowsI_all _) ?_;intro v hp' hO2 hoffs hkeep;obtain⟨kv,mv,rfl⟩:=hO2.msE (by simp);have yG:=hkeep (n+2+6) (by omega) (hO.offR hG (by decide));have yM:=hkeep (n+2+8+7) (by omega) hof;have yK:=hkeep (n+2+4) (by omega) (hO.offM hK);rw[zac,if_neg (by omega),hG]at yG;rw[zac,if_neg (by omega),hM]at yM;rw[zac,if_neg (by omega),hK]at yK;have k1:=hoffs (n+2+8+7) (by omega);have k2:=hoffs (n+2+6) (by omega);rw[hsnoc]at hO2;simp -dsimp only[go_sem,seval,yG,yM,yK,hrow,hrlen,hcb,hs1,hor,h33,hn9,hq1,hq2,hq3,hq4,hq5];refine⟨by omega,by simp -dsimp only[go_sem,seval,h33,hw],by simp -dsimp only[go_sem,seval];omega,by simp -dsimp only[go_sem,seval,zbI,hsucc],by simp -dsimp only[go_sem,seval,yK,hq2,hq4],.ms kv 0 mv,?_,k1,by simp -dsimp only[go_sem,seval,hq1,hn9]⟩;simp -dsimp only[go_sem,seval];refine((hO2.updO k2 _).updO k1 _).le ?_;omega
     ·have hk':(s.kind=7)=False:=by simp[hk]
      rw[decide_eq_false hk]at hcl;simp only[zG,if_false,Nat.add_zero]at hcl;rw[hcl]at hsucc hrow hcb hsnoc;simp -dsimp only[go_sem,seval,hk',hG,v1,v2,v3,v4,v5];refine zas (hO0.upd (by omega) _) (by omega) hln (by decide) rfl (rowsI_all _) ?_;intro v hp' hO2 hoffs hkeep;obtain⟨kv,mv,rfl⟩:=hO2.msE (by simp);have yG:=hkeep (n+2+6) (by omega) (hO.offR hG (by decide));have yM:=hkeep (n+2+8+7) (by omega) hof;have yK:=hkeep (n+2+4) (by omega) (hO.offM hK);rw[zac,if_neg (by omega),hG]at yG;rw[zac,if_neg (by omega),hM]at yM;rw[zac,if_neg (by omega),hK]at yK;have k1:=hoffs (n+2+8+7) (by omega);have k2:=hoffs (n+2+6) (by omega);rw[hsnoc]at hO2;simp -dsimp only[go_sem,seval,yG,yM,yK,hrow,hrlen,hcb,hs1,hor,h33,hn9,hq1,hq2,hq3,hq4,hq5];refine⟨by omega,by simp -dsimp only[go_sem,seval,h33,hw],by simp -dsimp only[go_sem,seval];omega,by simp -dsimp only[go_sem,seval,zbI,hsucc],by simp -dsimp only[go_sem,seval,yK,hq2,hq4],.ms kv 0 mv,?_,k1,by simp -dsimp only[go_sem,seval,hq1,hn9]⟩;simp -dsimp only[go_sem,seval];refine((hO2.updO k2 _).updO k1 _).le ?_;omega
  ·have hia:i=AL.length:=by omega
   subst hia;rw[List.take_length]at hO
   have hmsk:mskN p AL.length=(grM p model).msk:=by
    rw[<- hAL];unfold mskN;rw[List.take_length];rfl
   rw[hmsk]at hM
   refine zaj 10384591241189576686300442860193280 p.threads.length (fun k f h x=>(f 91).v=vi k/\n+18<=x/\h (n+2+8+7)=some (.rows 1 (rowsU (grM p model).msk) false)/\h (n+2+4)=some (.map [])/\OwnB h x cv 1 (rowsI (AL.map fun a=>((clsM p a:Nat):Int)))/\
    h (n+2+6)=some (.rows 521 [rowG (p.cells.map Cell.enc) (p.modules.map Contract.enc) (p.locks.map Lock.enc) (p.threads.map Thread.enc) model (AL.map Acc.enc) cv (.ms (n+2+8+7) 0 N) (fstR (grM p model).ldAt k) (fstR (grM p model).qkAt k) (n+2+4)] false)) rfl ?_ ?_
   ·refine⟨by simp -dsimp only[go_sem,seval],by simp -dsimp only[go_sem,seval];omega,by simp -dsimp only[go_sem,seval,hM],by simp -dsimp only[go_sem,seval,hK],by(try simp -dsimp only[go_sem,seval]);exact hO.le (by(try simp -dsimp only[go_sem,seval])<;>omega),by simp -dsimp only[go_sem,seval,hG];rfl⟩
   ·rintro k f2 u2 H2 z2 bs2 hk ⟨h91,hz2,hM2,hK2,hO2,hG2⟩;have hw2:=zah k (by omega);simp -dsimp only[go_sem,seval,h91];refine csplit (fun h=> ?_) (fun h=> ?_)<;>(try rw[h])<;>(try simp only[zab]at h)<;>(try simp -dsimp only[go_sem,seval,h91])
    ·obtain⟨x,hx,hxm⟩:=zaf ‹k<p.threads.length›;have hr1:=zgT 312 _ zjT x.steps (l5 x hxm).2.1;have hr2:=zgT 313 _ zjS x.steps (l5 x hxm).2.1;have hk4:((k:Int)<4)=True:=by simp;omega
     have hrl:=zdr (fstR (grM p model).ldAt k) (fstR (grM p model).qkAt k) (n+2+4);have ha1:(arr (reachM (fun _=>true) x.steps)).length=64:=by rw[zbb,reachM_len _ (l5 x hxm).2.1]
     have ha2:(arr (reachM innerM x.steps)).length=64:=by rw[zbb,reachM_len _ (l5 x hxm).2.1]
     have hc1:(8+k*64<=457)=True:=by simp;omega
     have hc2:(264+k*64<=457)=True:=by simp;omega
     have hgl:= @zmF (p.cells.map Cell.enc) (p.modules.map Contract.enc) (p.locks.map Lock.enc) (p.threads.map Thread.enc) (AL.map Acc.enc) model cv (.ms (n+2+8+7) 0 N) (fstR (grM p model).ldAt k) (fstR (grM p model).qkAt k) (n+2+4) k (reachM (fun _=>true) x.steps) (by omega) (reachM_len _ (l5 x hxm).2.1);have hgq:= @zmE (p.cells.map Cell.enc) (p.modules.map Contract.enc) (p.locks.map Lock.enc) (p.threads.map Thread.enc) (AL.map Acc.enc) model cv (.ms (n+2+8+7) 0 N) (fstR (grM p model).ldAt (k+1)) (fstR (grM p model).qkAt k) (n+2+4) k (reachM innerM x.steps) (by omega) (reachM_len _ (l5 x hxm).2.1)
     have e0: ∀(F:Nat->Nat->Nat) (l:List Nat),(∀i,F k i=l.getD i 0)->updR (fstR F k) k l=fstR F (k+1):=by
      intro F l hF
      funext t i
      unfold updR fstR
      by_cases h1:t=k
      ·subst h1;simp[hF]
      ·rw[if_neg h1]
       by_cases h2:t<k
       ·rw[if_pos h2,if_pos (by omega)]
       ·rw[if_neg h2,if_neg (by omega)]
     have e1:=e0 (grM p model).ldAt (reachM (fun _=>true) x.steps) (fun i=>by simp[Gr.ldAt,grM,List.getD_eq_getElem?_getD,hx]);have e2:=e0 (grM p model).qkAt (reachM innerM x.steps) (fun i=>by simp[Gr.qkAt,grM,List.getD_eq_getElem?_getD,hx]);rw[e1]at hgl;rw[e2]at hgq;have hrl2:=zdr (fstR (grM p model).ldAt (k+1)) (fstR (grM p model).qkAt k) (n+2+4);simp -dsimp only[go_sem,seval,h91,hx,hr1,hr2,hG2,hk4,ha1,ha2,hrl,hrl2,hgl,hgq,hc1,hc2];refine⟨by omega,by simp -dsimp only[go_sem,seval,h91,hw2],by simp -dsimp only[go_sem,seval];omega,by simp -dsimp only[go_sem,seval,hM2,hn9,hq1],by simp -dsimp only[go_sem,seval,hK2,hq2],?_,by simp -dsimp only[go_sem,seval]⟩;simp -dsimp only[go_sem,seval];have ho:=hO2.offR hG2 (by decide);refine((hO2.updO ho _).updO ho _).le ?_;omega
    ·have hkn:k=p.threads.length:=by omega
     subst hkn
     have hfl: ∀f:Nat->Nat->Nat,(∀t i,p.threads.length<=t->f t i=0)->fstR f p.threads.length=f:=by
      intro f hf
      funext t i
      unfold fstR;split
      ·rfl
      ·rw[hf t i (by omega)]
     rw[hfl (grM p model).ldAt (fun t i h=>by simp[Gr.ldAt,grM,List.getD_eq_getElem?_getD,List.getElem?_eq_none h]),hfl (grM p model).qkAt (fun t i h=>by simp[Gr.qkAt,grM,List.getD_eq_getElem?_getD,List.getElem?_eq_none h])]at hG2;refine⟨n+2+6,rfl,⟨cv,n+2+8+7,n+2+4,?_,?_,hM2,hK2,?_,?_,?_⟩⟩
     ·rw[hG2,show(grM p model).msk.length=N by simp[grM,hNe],show(grM p model).all=AL from hAL]
     ·rw[show(grM p model).cls=(accsM p).map (clsM p)from rfl,hAL,List.map_map]
      (try simp -dsimp only[go_sem,seval])
      refine hO2.le ?_;omega
     ·(try simp -dsimp only[go_sem,seval]);omega
     ·(try simp -dsimp only[go_sem,seval]);omega
     ·(try simp -dsimp only[go_sem,seval]);omega
end Rg
end
