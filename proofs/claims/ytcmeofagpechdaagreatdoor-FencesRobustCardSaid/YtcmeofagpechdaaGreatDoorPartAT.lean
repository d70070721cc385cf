/- Part of the proof of laws of relyguardlaw31. No condition. -/
import Derived.Test.YtcmeofagpechdaaGreatDoorPartAS
set_option linter.unusedSimpArgs false
set_option linter.unusedVariables false
section
namespace Rg
open Go
def rowsV (f:Nat->Nat->Nat):List V:=(List.range 256).map fun j=> .t (.int .u64 (f (j/ 64) (j % 64):Nat))
theorem zaU (f:Nat->Nat->Nat):(rowsV f).length=256:=by simp[rowsV]
def restV (ld qk:Nat->Nat->Nat) (kn:Nat):List V:=rowsV ld++rowsV qk++[.mm kn]
theorem zdr (ld qk:Nat->Nat->Nat) (kn:Nat):(restV ld qk kn).length=513:=by simp[restV,zaU]
abbrev rowG (cs ms ls ts:List (List T)) (model:Int) (al:List (List T)) (cv mv:V) (ld qk:Nat->Nat->Nat) (kn:Nat):List V:=
 .t (.sl cs):: .t (.sl ms):: .t (.sl ls):: .t (.sl ts):: .t (.int .i64 model):: .t (.sl al)::cv::mv::restV ld qk kn
def Shw (H:Nat->Option O) (v:V) (sz:Nat) (es:List (List T)):Prop:=(v= .t .nils/\es=[])\/ ∃k f,v= .ms k 0 es.length/\H k=some (.rows sz (es.map (·.map V.t)) f)
theorem Shw.toT {H:Nat->Option O} {v:V} {sz:Nat} {es:List (List T)} (h:Shw H v sz es) (hn: ∀e∈es,∀t∈e,T.norm t=t) (d:Nat):toT H (d+1) v=some (.sl es):=by
 rcases h with⟨rfl,rfl⟩ | ⟨k,f,rfl,hk⟩
 ·rfl
 ·have h1:=zef H d es hn;simp only[Rg.toT,hk]
  rw[show rd (es.map (·.map V.t)) 0 es.length=some (es.map (·.map V.t))by
   simp only[rd,List.length_map,Nat.zero_add,Nat.le_refl,if_true,List.drop_zero];rw[List.take_of_length_le (by simp)]]
  simp only[zC,zD,h1]
theorem Shw.valOf {H:Nat->Option O} {v:V} {sz:Nat} {es:List (List T)} (h:Shw H v sz es):valOf v=some v:=by
 rcases h with⟨rfl,rfl⟩ | ⟨k,f,rfl,hk⟩<;>rfl
theorem Shw.isTr {H:Nat->Option O} {v:V} {sz:Nat} {es:List (List T)} (h:Shw H v sz es):v.one=true:=by
 rcases h with⟨rfl,rfl⟩ | ⟨k,f,rfl,hk⟩<;>rfl
def zpc (es:List (List T)):Prop:= ∀e∈es,∀t∈e,T.norm t=t
theorem rowsV_toT (H:Nat->Option O) (d:Nat) (f:Nat->Nat->Nat):(rowsV f).mapM (toT H d)=some (rowsT f):=by
 refine zbd _ _ _ (fun i a ha=> ?_) (by simp[rowsV,rowsT]);simp only[rowsV,rowsT,zJ,zE]at ha⊢;obtain⟨x,hx,rfl⟩:=ha;exact⟨_,⟨x,hx,rfl⟩,by cases d<;>rfl⟩
theorem mapM_app {α β:Type} (f:α->Option β): ∀{a b:List α} {x y:List β},a.mapM f=some x->b.mapM f=some y->(a++b).mapM f=some (x++y):=by
 intro a b x y ha hb;rw[List.mapM_append,ha,hb];rfl
theorem zeT {H:Nat->Option O} {kG kn:Nat} {cs ms ls ts al ce me:List (List T)} {model:Int} {cv mv:V} {ld qk:Nat->Nat->Nat} {es:List (T×V)} {fz:Bool}
 (hG:H kG=some (.rows 521 [rowG cs ms ls ts model al cv mv ld qk kn] fz)) (hc:Shw H cv 1 ce) (hcn:zpc ce) (hm:Shw H mv 1 me) (hmn:zpc me) (hk:H kn=some (.map es)):
 toT1 H (.mp kG 0 0)=some (.t (.ip (.sl cs:: .sl ms:: .sl ls:: .sl ts:: .int .i64 model:: .sl al:: .sl ce:: .sl me::(rowsT ld++rowsT qk++[.opq])))):=by
 have hr:(restV ld qk kn).mapM (toT H 999)=some (rowsT ld++rowsT qk++[.opq]):=by
  refine mapM_app _ (mapM_app _ (rowsV_toT H 999 ld) (rowsV_toT H 999 qk)) ?_;rw[List.mapM_cons,show toT H 999 (.mm kn)=some .opq by rw[show 999=998+1 from rfl];simp only[toT,hk]];rfl
 have h1:=hc.toT hcn 998;have h2:=hm.toT hmn 998;have hx: ∀x:T,toT H 999 (.t x)=some x.norm:=fun x=>rfl
 have hrow:(rowG cs ms ls ts model al cv mv ld qk kn).mapM (toT H 999)=some (.sl cs:: .sl ms:: .sl ls:: .sl ts:: .int .i64 model:: .sl al:: .sl ce:: .sl me::(rowsT ld++rowsT qk++[.opq])):=by
  simp only[rowG,List.mapM_cons,hx,h1,h2,hr,T.norm];rfl
 have:toT H 1000 (.mp kG 0 0)=some (.ip (.sl cs:: .sl ms:: .sl ls:: .sl ts:: .int .i64 model:: .sl al:: .sl ce:: .sl me::(rowsT ld++rowsT qk++[.opq]))):=by
  rw[show 1000=999+1 from rfl];simp only[toT,hG];show(do let row<- [rowG cs ms ls ts model al cv mv ld qk kn][0]?;let cs<- (row.drop 0).mapM (toT H 999);some (T.ip cs))=_;simp only[List.getElem?_cons_zero,List.drop_zero,zC,zD,hrow]
 show(toT H 1000 (.mp kG 0 0)).map V.t=_;rw[this];rfl
theorem gstepH_den {H:Nat->Option O} {kG:Nat} {row:List V} {fz:Bool} (n:Nat) (p:Prog) (t k:Nat) (x:Int) (w:Bool) {y:Thread} {s:Step}
 (hG:H kG=some (.rows 521 [.t (.sl (p.cells.map Cell.enc)):: .t (.sl (p.modules.map Contract.enc)):: .t (.sl (p.locks.map Lock.enc)):: .t (.sl (p.threads.map Thread.enc))::row] fz))
 (ht:p.threads[t]? =some y) (hk:y.steps[k]? =some s):
 ∃r h' n',DenR Γ G 310 [.mp kG 0 0,.agg [vi t,vi k,vi x,vb w]] H n=some (r,h',n')/\r=(.agg [.t (ti (s).kind),.t (ti (s).fr),.t (ti (s).to),.t (ti ((s).guard).op),.t (ti ((s).guard).w),.t (ti ((s).guard).n),.t (.sl (((s).guard).kids.map Expr.enc)),.t (.sl ((s).set.map Assign.enc)),.t (tb (s).release),.t (ti (s).target),.t (ti (s).module)])/\h'=H/\n<=n':=by
 have hb:=(zH.1 ht).1;have hb2:=(zH.1 hk).1
 (refine denR_ofY Γ310 rfl ?_;dsimp only[zqg])
 simp -dsimp only[go_sem,seval,hG,ht,hk];refine⟨rfl,rfl,?_⟩;simp -dsimp only[go_sem,seval];omega
def updR (f:Nat->Nat->Nat) (k:Nat) (l:List Nat):Nat->Nat->Nat:=fun t i=>if t=k then l.getD i 0 else f t i
theorem zf2 (f:Nat->Nat->Nat) {j:Nat} (h:j<256):(rowsV f)[j]? =some (.t (.int .u64 (f (j/ 64) (j % 64):Nat))):=by
 simp only[rowsV,zJ];rw[List.getElem?_range h];rfl
theorem ziB (f:Nat->Nat->Nat) {k:Nat} {l:List Nat} (hk:k<4) (hl:l.length=64):List.take (k*64) (rowsV f)++arr l++List.drop (k*64+64) (rowsV f)=rowsV (updR f k l):=by
 have h1:(List.take (k*64) (rowsV f)).length=k*64:=by rw[List.length_take,zaU];omega
 refine List.ext_getElem? fun j=> ?_
 rcases Nat.lt_or_ge j 256 with hj | hj
 ·rw[zf2 _ hj];rcases Nat.lt_or_ge j (k*64)with h2 | h2
  ·rw[List.append_assoc,List.getElem?_append_left (by omega),List.getElem?_take,if_pos h2,zf2 _ hj];have:j/ 64≠k:=by omega
   simp[updR,this]
  ·rcases Nat.lt_or_ge j (k*64+64)with h3 | h3
   ·rw[List.append_assoc,List.getElem?_append_right (by omega),h1,List.getElem?_append_left (by rw[zbb];omega)];have e1:j/ 64=k:=by omega
    have e2:j-k*64=j % 64:=by omega
    have h4:j % 64<l.length:=by omega
    simp[arr,updR,e1,e2,List.getD_eq_getElem?_getD,zI h4]
   ·rw[List.getElem?_append_right (by rw[List.length_append,zbb];omega),List.length_append,zbb,h1,hl,List.getElem?_drop,show k*64+64+(j-(k*64+64))=j by omega,zf2 _ hj];have:j/ 64≠k:=by omega
    simp[updR,this]
 ·rw[List.getElem?_eq_none (by rw[List.length_append,List.length_append,zbb,h1,List.length_drop,zaU];omega),List.getElem?_eq_none (by rw[zaU];omega)]
theorem wrA {a b l:List V} {m:Nat} (h:m+64<=a.length):List.take m (a++b)++l++List.drop (m+64) (a++b)=(List.take m a++l++List.drop (m+64) a)++b:=by
 rw[List.take_append_of_le_length (by omega),List.drop_append_of_le_length h];simp only[List.append_assoc]
theorem wrB {a b l:List V} {m:Nat}:List.take (a.length+m) (a++b)++l++List.drop (a.length+(m+64)) (a++b)=a++(List.take m b++l++List.drop (m+64) b):=by
 rw[List.take_length_add_append,List.drop_length_add_append];simp only[List.append_assoc]
theorem zom {cs ms ls ts al:List (List T)} {model:Int} {cv mv:V} {ld qk:Nat->Nat->Nat} {kn k:Nat} {l:List Nat} (hk:k<4) (hl:l.length=64):
 List.take (8+k*64) (rowG cs ms ls ts model al cv mv ld qk kn)++arr l++List.drop (8+k*64+64) (rowG cs ms ls ts model al cv mv ld qk kn)=rowG cs ms ls ts model al cv mv (updR ld k l) qk kn:=by
 have e:List.take (k*64) (restV ld qk kn)++arr l++List.drop (k*64+64) (restV ld qk kn)=restV (updR ld k l) qk kn:=by
  unfold restV;rw[List.append_assoc (rowsV ld),wrA (by rw[zaU];omega),ziB ld hk hl,List.append_assoc]
 rw[show 8+k*64=k*64+1+1+1+1+1+1+1+1 by omega,show k*64+1+1+1+1+1+1+1+1+64=k*64+64+1+1+1+1+1+1+1+1 by omega];simp only[rowG,List.take_succ_cons,List.drop_succ_cons,List.cons_append];rw[e]
theorem zol {cs ms ls ts al:List (List T)} {model:Int} {cv mv:V} {ld qk:Nat->Nat->Nat} {kn k:Nat} {l:List Nat} (hk:k<4) (hl:l.length=64):
 List.take (264+k*64) (rowG cs ms ls ts model al cv mv ld qk kn)++arr l++List.drop (264+k*64+64) (rowG cs ms ls ts model al cv mv ld qk kn)=rowG cs ms ls ts model al cv mv ld (updR qk k l) kn:=by
 have e:List.take (256+k*64) (restV ld qk kn)++arr l++List.drop (256+(k*64+64)) (restV ld qk kn)=restV ld (updR qk k l) kn:=by
  have:=wrB (a:=rowsV ld) (b:=rowsV qk++[.mm kn]) (l:=arr l) (m:=k*64);rw[zaU,wrA (by rw[zaU];omega),ziB qk hk hl,<- List.append_assoc,<- List.append_assoc]at this;exact this
 rw[show 264+k*64=256+k*64+1+1+1+1+1+1+1+1 by omega,show 256+k*64+1+1+1+1+1+1+1+1+64=256+(k*64+64)+1+1+1+1+1+1+1+1 by omega];simp only[rowG,List.take_succ_cons,List.drop_succ_cons,List.cons_append];rw[e]
theorem zmF {cs ms ls ts al:List (List T)} {model:Int} {cv mv:V} {ld qk:Nat->Nat->Nat} {kn k:Nat} {l:List Nat} (hk:k<4) (hl:l.length=64):
 List.take (8+k*64) (rowG cs ms ls ts model al cv mv ld qk kn)++arr l++List.drop (8+k*64+56) (restV ld qk kn)=rowG cs ms ls ts model al cv mv (updR ld k l) qk kn:=by
 rw[<- zom hk hl];rfl
theorem zmE {cs ms ls ts al:List (List T)} {model:Int} {cv mv:V} {ld qk:Nat->Nat->Nat} {kn k:Nat} {l:List Nat} (hk:k<4) (hl:l.length=64):
 List.take (264+k*64) (rowG cs ms ls ts model al cv mv ld qk kn)++arr l++List.drop (264+k*64+56) (restV ld qk kn)=rowG cs ms ls ts model al cv mv ld (updR qk k l) kn:=by
 rw[<- zol hk hl];rfl
end Rg
end
section
namespace Rg
open Go
structure GrObj (H:Nat->Option O) (n kG:Nat) (p:Prog) (model:Int) (g:Gr):Prop where
 ex: ∃cv kM kn,H kG=some (.rows 521 [rowG (p.cells.map Cell.enc) (p.modules.map Contract.enc) (p.locks.map Lock.enc) (p.threads.map Thread.enc) model (g.all.map Acc.enc) cv (.ms kM 0 g.msk.length) g.ldAt g.qkAt kn] false)/\
  OwnB H n cv 1 (rowsI (g.cls.map fun c:Nat=>(c:Int)))/\H kM=some (.rows 1 (rowsU g.msk) false)/\H kn=some (.map [])/\kG<n/\kM<n/\kn<n
abbrev zu:V:=.t (.int .u64 0)
def zgO:List V:=List.replicate 512 zu++[.t .nilm]
set_option maxRecDepth 20000 in
theorem zob: [zn,zn,zn,zn,zi,zn,zn,zn,zu,zu,zu,zu,zu,zu,zu,zu,zu,zu,zu,zu,zu,zu,zu,zu,zu,zu,zu,zu,zu,zu,zu,zu,zu,zu,zu,zu,zu,zu,zu,zu,zu,zu,zu,zu,zu,zu,zu,zu,zu,zu,zu,zu,zu,zu,zu,zu,zu,zu,
 zu,zu,zu,zu,zu,zu,zu,zu,zu,zu,zu,zu,zu,zu,zu,zu,zu,zu,zu,zu,zu,zu,zu,zu,zu,zu,zu,zu,zu,zu,zu,zu,zu,zu,zu,zu,zu,zu,zu,zu,zu,zu,zu,zu,zu,zu,zu,zu,zu,zu,
 zu,zu,zu,zu,zu,zu,zu,zu,zu,zu,zu,zu,zu,zu,zu,zu,zu,zu,zu,zu,zu,zu,zu,zu,zu,zu,zu,zu,zu,zu,zu,zu,zu,zu,zu,zu,zu,zu,zu,zu,zu,zu,zu,zu,zu,zu,zu,zu,zu,zu,
 zu,zu,zu,zu,zu,zu,zu,zu,zu,zu,zu,zu,zu,zu,zu,zu,zu,zu,zu,zu,zu,zu,zu,zu,zu,zu,zu,zu,zu,zu,zu,zu,zu,zu,zu,zu,zu,zu,zu,zu,zu,zu,zu,zu,zu,zu,zu,zu,zu,zu,
 zu,zu,zu,zu,zu,zu,zu,zu,zu,zu,zu,zu,zu,zu,zu,zu,zu,zu,zu,zu,zu,zu,zu,zu,zu,zu,zu,zu,zu,zu,zu,zu,zu,zu,zu,zu,zu,zu,zu,zu,zu,zu,zu,zu,zu,zu,zu,zu,zu,zu,
 zu,zu,zu,zu,zu,zu,zu,zu,zu,zu,zu,zu,zu,zu,zu,zu,zu,zu,zu,zu,zu,zu,zu,zu,zu,zu,zu,zu,zu,zu,zu,zu,zu,zu,zu,zu,zu,zu,zu,zu,zu,zu,zu,zu,zu,zu,zu,zu,zu,zu,
 zu,zu,zu,zu,zu,zu,zu,zu,zu,zu,zu,zu,zu,zu,zu,zu,zu,zu,zu,zu,zu,zu,zu,zu,zu,zu,zu,zu,zu,zu,zu,zu,zu,zu,zu,zu,zu,zu,zu,zu,zu,zu,zu,zu,zu,zu,zu,zu,zu,zu,
 zu,zu,zu,zu,zu,zu,zu,zu,zu,zu,zu,zu,zu,zu,zu,zu,zu,zu,zu,zu,zu,zu,zu,zu,zu,zu,zu,zu,zu,zu,zu,zu,zu,zu,zu,zu,zu,zu,zu,zu,zu,zu,zu,zu,zu,zu,zu,zu,zu,zu,
 zu,zu,zu,zu,zu,zu,zu,zu,zu,zu,zu,zu,zu,zu,zu,zu,zu,zu,zu,zu,zu,zu,zu,zu,zu,zu,zu,zu,zu,zu,zu,zu,zu,zu,zu,zu,zu,zu,zu,zu,zu,zu,zu,zu,zu,zu,zu,zu,zu,zu,
 zu,zu,zu,zu,zu,zu,zu,zu,zu,zu,zu,zu,zu,zu,zu,zu,zu,zu,zu,zu,zu,zu,zu,zu,zu,zu,zu,zu,zu,zu,zu,zu,zu,zu,zu,zu,zu,zu,zu,zu,zu,zu,zu,zu,zu,zu,zu,zu,zu,zu,
 zu,zu,zu,zu,zu,zu,zu,zu,zu,zu,zu,zu,.t .nilm]=zn::zn::zn::zn::zi::zn::zn::zn::zgO:=rfl
theorem zgN:zgO.length=513:=by simp only[zgO,List.length_append,List.length_replicate,List.length_cons,List.length_nil]
theorem zkv (k:Nat):List.take 512 zgO++[.mm k]++List.drop 513 zgO=restV (fun _ _=>0) (fun _ _=>0) k:=by
 have e: ∀f:Nat->Nat->Nat,(∀a b,f a b=0)->rowsV f=List.replicate 256 zu:=by
  intro f hf;rw[List.eq_replicate_iff];refine⟨zaU f,fun x hx=> ?_⟩;simp only[rowsV,List.mem_map]at hx;obtain⟨j,_,rfl⟩:=hx;rw[hf];rfl
 have h1:List.take 512 zgO=List.replicate 512 zu:=by
  rw[zgO,List.take_append_of_le_length (by rw[List.length_replicate];exact Nat.le_refl _),List.take_of_length_le (by rw[List.length_replicate];exact Nat.le_refl _)]
 have h2:List.drop 513 zgO=[]:=List.drop_of_length_le (by rw[zgN];exact Nat.le_refl _);rw[h1,h2,restV,e _ (fun _ _=>rfl),List.replicate_append_replicate,List.append_nil]
def mskN (p:Prog) (i:Nat):List Nat:=(List.range (p.threads.length*(2*(p.cells.length+p.threads.length)))).map fun c=>((accsM p).take i).foldl (fun m a=>if clsM p a=c then m ||| 1<<< a.st else m) 0
theorem zcX (p:Prog) (i:Nat):(mskN p i).length=p.threads.length*(2*(p.cells.length+p.threads.length)):=by simp[mskN]
theorem zkV (p:Prog):mskN p 0=List.replicate (p.threads.length*(2*(p.cells.length+p.threads.length))) 0:=by
 refine List.ext_getElem (by simp[mskN]) fun i h1 h2=> ?_
 simp[mskN]
theorem mskN_at (p:Prog) (i:Nat) {c:Nat} (h:c<p.threads.length*(2*(p.cells.length+p.threads.length))):(mskN p i)[c]? =some (((accsM p).take i).foldl (fun m a=>if clsM p a=c then m ||| 1<<< a.st else m) 0):=by
 simp only[mskN,zJ,List.getElem?_range h,Option.map_some]
theorem zkW (p:Prog) {i m:Nat} {a:Acc} (ha:(accsM p)[i]? =some a) (hm:(mskN p i)[clsM p a]? =some m):mskN p (i+1)=(mskN p i).set (clsM p a) (m ||| 1<<< a.st):=by
 refine List.ext_getElem? fun c=> ?_
 by_cases hc:c<p.threads.length*(2*(p.cells.length+p.threads.length))
 ·rw[mskN_at p (i+1) hc,zae ha,List.foldl_append,List.getElem?_set]
  by_cases h:clsM p a=c
  ·subst h;rw[mskN_at p i hc]at hm;simp[zcX,hc,Option.some.inj hm]
  ·rw[if_neg h,mskN_at p i hc];simp[h]
 ·rw[List.getElem?_eq_none (by rw[zcX];omega),List.getElem?_eq_none (by rw[List.length_set,zcX];omega)]
theorem zoI (p:Prog) (hp:p.ok) {i c m:Nat} (h:(mskN p i)[c]? =some m):m<2^64:=by
 have hc:=(zH.1 h).1;rw[zcX]at hc;rw[mskN_at p i hc]at h;cases h;refine Nat.lt_pow_two_of_testBit _ fun j hj=> ?_
 cases hb:(List.foldl (fun m a=>if clsM p a=c then m ||| 1<<< a.st else m) 0 ((accsM p).take i)).testBit j
 ·rfl
 ·have:=zcE (fun a:Acc=>decide (clsM p a=c)) (fun a=>a.st) j ((accsM p).take i) 0;simp only[decide_eq_true_eq]at this;rw[hb]at this;have h2:=this.symm;simp only[Nat.zero_testBit,Bool.false_or,List.any_eq_true,zF,decide_eq_true_eq]at h2;obtain⟨a,h1,_,h3⟩:=h2;have:=(ok_acc hp (List.mem_of_mem_take h1)).2.1;omega
theorem OwnB.shw {h:Nat->Option O} {x:Nat} {v:V} {sz:Nat} {es:List (List T)} (o:OwnB h x v sz (es.map (·.map V.t))):Shw h v sz es:=by
 rcases o with⟨rfl,he⟩ | ⟨k,rfl,_,hk⟩
 ·exact .inl ⟨rfl,by simpa using he⟩
 ·exact .inr ⟨k,false,by simp,hk⟩
theorem OwnB.updO {h:Nat->Option O} {x k sz:Nat} {v:V} {rows:List (List V)} (o:OwnB h x v sz rows) (hk:zc1 v k) (b:Option O):OwnB (updC h k b) x v sz rows:=by
 rcases o with o | ⟨q,rfl,h2,h3⟩
 ·exact .inl o
 ·refine .inr ⟨q,rfl,h2,?_⟩;have:q≠k:=by rintro rfl;exact hk _ _ rfl
  rw[zac,if_neg this];exact h3
theorem OwnB.msE {h:Nat->Option O} {x sz:Nat} {v:V} {rows:List (List V)} (o:OwnB h x v sz rows) (hn:rows≠[]): ∃k m,v= .ms k 0 m:=by
 rcases o with⟨_,h1⟩ | ⟨q,h1,_,_⟩
 ·exact absurd h1 hn
 ·exact⟨_,_,h1⟩
theorem OwnB.offM {h:Nat->Option O} {x k sz:Nat} {v:V} {rows:List (List V)} {es:List (T×V)} (o:OwnB h x v sz rows) (hk:h k=some (.map es)):zc1 v k:=by
 rcases o with⟨rfl,_⟩ | ⟨q,rfl,_,hq⟩
 ·intro i n he;cases he
 ·refine offK_ms ?_ _ _;rintro rfl;rw[hq]at hk;cases hk
def fstR (f:Nat->Nat->Nat) (k:Nat):Nat->Nat->Nat:=fun t i=>if t<k then f t i else 0
theorem u64_norm (l:List Nat):zpc (l.map fun x:Nat=>[T.int .u64 x]):=by
 intro e he t ht;obtain⟨x,_,rfl⟩:=List.mem_map.1 he;simp only[List.mem_cons,List.not_mem_nil,or_false]at ht;rw[ht];rfl
theorem zok (l:List Nat):rowsU l=(l.map fun x:Nat=>[T.int .u64 x]).map (·.map V.t):=by simp[rowsU]
theorem msk_shw {h:Nat->Option O} {k m:Nat} {l:List Nat} {f:Bool} (hk:h k=some (.rows 1 (rowsU l) f)) (hm:m=l.length):Shw h (.ms k 0 m) 1 (l.map fun x:Nat=>[T.int .u64 x]):=
 .inr ⟨k,f,by simp[hm],by rw[hk,zok]⟩
set_option maxHeartbeats 4000000
set_option maxRecDepth 4000
theorem build_den (p:Prog) (hp:p.ok) (hset: ∀x∈p.threads,∀s∈x.steps,s.set.length<2^20) (model:Int) (H:Nat->Option O) (n:Nat):
 ∃r h' n',DenR Γ G 300 [(.agg [.t (.sl ((p).cells.map (Cell.enc))),.t (.sl ((p).modules.map (Contract.enc))),.t (.sl ((p).locks.map (Lock.enc))),.t (.sl ((p).threads.map (Thread.enc)))]),vi model] H n=some (r,h',n')/\(∃kG,r= .mp kG 0 0/\GrObj h' n' kG p model (grM p model)):=by
 have hac:=znL p hp hset
 (refine denR_ofY Γ300 rfl ?_;dsimp only[f300])
 rw[zob];have hzl:=zgN;have hrs:=zkv (n+2+4)
 have hT:toT1 (updC (updC H (n+2+4) (some (.map []))) (n+2+6) (some (.rows 521 [rowG (p.cells.map Cell.enc) (p.modules.map Contract.enc) (p.locks.map Lock.enc) (p.threads.map Thread.enc) model ((accsM p).map Acc.enc) zn zn (fun _ _=>0) (fun _ _=>0) (n+2+4)] false))) (.mp (n+2+6) 0 0)=
  some (.t (.ip (.sl (p.cells.map Cell.enc):: .sl (p.modules.map Contract.enc):: .sl (p.locks.map Lock.enc):: .sl (p.threads.map Thread.enc):: .int .i64 model:: .sl ((accsM p).map Acc.enc):: .sl []:: .sl []::(rowsT (fun _ _=>0)++rowsT (fun _ _=>0)++[.opq])))):=by
  refine zeT (by rw[zac,if_pos rfl]) (.inl ⟨rfl,rfl⟩) (fun e h=>by cases h) (.inl ⟨rfl,rfl⟩) (fun e h=>by cases h) (by rw[zac,if_neg (by omega),zac,if_pos rfl])
 have hrl:=zdr (fun _ _=>0) (fun _ _=>0) (n+2+4);obtain⟨⟨l1,l2,l3,l4⟩,l5⟩:=limits_iff.1 (ok_iff.1 hp).lim;have hN:p.threads.length*(2*(p.cells.length+p.threads.length))<=4*72:=Nat.mul_le_mul l4 (by omega)
 have hmul:IntKind.i64.wrap ((p.threads.length:Int)*(2*((p.cells.length:Int)+p.threads.length)))=((p.threads.length*(2*(p.cells.length+p.threads.length)):Nat):Int):=by
  rw[show(p.threads.length:Int)*(2*((p.cells.length:Int)+p.threads.length))=((p.threads.length*(2*(p.cells.length+p.threads.length)):Nat):Int)by push_cast;rfl,zan (by omega)]
 have hsz: ∀tl,Den Γ G 309 [.t (.ip (.sl (p.cells.map Cell.enc):: .sl (p.modules.map Contract.enc):: .sl (p.locks.map Lock.enc):: .sl (p.threads.map Thread.enc)::tl))]=some (vi (2*((p.cells.length:Int)+p.threads.length))):=by
  intro tl;have:=zeS (p.cells.map Cell.enc) (p.modules.map Contract.enc) (p.locks.map Lock.enc) (p.threads.map Thread.enc) tl (by simp;omega) (by simp;omega);simpa using this
 generalize hNe:p.threads.length*(2*(p.cells.length+p.threads.length))=N at hN hmul
 have hc1:((N:Int)<0)=False:=by simp
 have hc2:((N:Int)<=N)=True:=by simp
 have hc3:((N:Int)<=4294967296)=True:=by simp;omega
 have hn9:(n=n+9)=False:=by simp
 have hq1:(n+9=n)=False:=by simp
 have hq2:(n=n+2)=False:=by simp
 have hq3:(n+2=n)=False:=by simp
 have hq4:(n=n+11)=False:=by simp
 have hq5:(n+11=n)=False:=by simp
 simp -dsimp only[go_sem,seval,hac,hzl,hrs,hrl,↓hT,hsz,hmul,hc1,hc2,hc3,hn9];rw[zfp]
 generalize hAL:accsM p=AL at hac
 refine zaj 309485009821345060134846848 AL.length (fun i f h x=>(f 33).v=vi i/\n+18<=x/\h (n+2+8+7)=some (.rows 1 (rowsU (mskN p i)) false)/\h (n+2+4)=some (.map [])/\ ∃cv,OwnB h x cv 1 (rowsI ((AL.take i).map fun a=>((clsM p a:Nat):Int)))/\zc1 cv (n+2+8+7)/\
  h (n+2+6)=some (.rows 521 [rowG (p.cells.map Cell.enc) (p.modules.map Contract.enc) (p.locks.map Lock.enc) (p.threads.map Thread.enc) model (AL.map Acc.enc) cv (.ms (n+2+8+7) 0 N) (fun _ _=>0) (fun _ _=>0) (n+2+4)] false)) rfl ?_ ?_
 ·refine⟨by simp -dsimp only[go_sem,seval],by simp -dsimp only[go_sem,seval];omega,?_,?_,zn,.inl ⟨rfl,rfl⟩,(fun i m h=>by cases h),?_⟩
  ·rw[zkV,hNe];simp -dsimp only[go_sem,seval];rw[if_neg (by omega)]
  ·simp -dsimp only[go_sem,seval];rw[if_neg (by omega),if_neg (by omega),if_neg (by omega)]
  ·simp -dsimp only[go_sem,seval]
 ·clear hT hrs hzl hrl;rintro i f u Hh z bs hi ⟨h33,hz,hM,hK,cv,hO,hof,hG⟩
  have hw:=zah i (by have:AL.length<2^20:=by
                      rw[<- hAL];have:=zb9 p l1 (fun x hx=>(l5 x hx).2.1) _ (Nat.le_refl _);unfold accsM;omega
                     omega)
  simp -dsimp only[go_sem,seval,h33];refine csplit (fun h=> ?_) (fun h=> ?_)<;>(try rw[h])<;>(try simp only[zab]at h)<;>(try simp -dsimp only[go_sem,seval,h33])
  ·obtain⟨a,ha,ham⟩:=zaf ‹i<AL.length›;rw[<- hAL]at ham;obtain⟨x,s,hx,hs,_⟩:=zel.1 ham;have hok:=ok_acc hp ham
   have hT:=zeT hG (OwnB.shw (es:=(AL.take i).map fun a=>[ti (clsM p a)]) (by
    have e:rowsI ((AL.take i).map fun a=>((clsM p a:Nat):Int))=((AL.take i).map fun a=>[ti (clsM p a)]).map (·.map V.t):=by simp only[rowsI,List.map_map];rfl
    rw[<- e];exact hO)) (by
    intro e he t ht;obtain⟨y,_,rfl⟩:=List.mem_map.1 he;simp only[List.mem_cons,List.not_mem_nil,or_false]at ht
    rw[ht];rfl) (msk_shw hM (by rw[zcX,hNe])) (u64_norm _) hK
   have hb:=(clsM_bounds hp ham).2;rw[hNe]at hb;have hat:=(mskN_at p i (c:=clsM p a) (by rw[hNe];exact hb))
   generalize(List.foldl (fun m b=>if clsM p b=clsM p a then m ||| 1<<< b.st else m) 0 ((accsM p).take i))=m0 at hat
   have hm0:=zoI p hp hat;have hsucc:=zkW p (by rw[hAL];exact ha) hat;have hma:a.th*(2*(p.cells.length+p.threads.length))<=4*72:=Nat.mul_le_mul (by omega) (by omega)
   have hm1:IntKind.i64.wrap ((a.th:Int)*(2*((p.cells.length:Int)+p.threads.length)))=((a.th*(2*(p.cells.length+p.threads.length)):Nat):Int):=by
    rw[show(a.th:Int)*(2*((p.cells.length:Int)+p.threads.length))=((a.th*(2*(p.cells.length+p.threads.length)):Nat):Int)by push_cast;rfl,zan (by omega)]
   have hm2:IntKind.i64.wrap (2*(a.ce:Int))=((2*a.ce:Nat):Int):=by rw[zan (by omega)];push_cast;rfl
   have hcl:clsM p a=a.th*(2*(p.cells.length+p.threads.length))+2*a.ce+if(a.wr&&decide (a.ce<p.cells.length))||decide ((p.stepAt a.th a.st).kind=7)then 1 else 0:=rfl
   rw[zet hx hs]at hcl
   generalize a.th*(2*(p.cells.length+p.threads.length))=M at hm1 hma hcl
   have hm3:IntKind.i64.wrap ((M:Int)+((2*a.ce:Nat):Int))=((M+2*a.ce:Nat):Int):=by rw[zan (by omega)];push_cast;rfl
   have hm4:IntKind.i64.wrap (((M+2*a.ce:Nat):Int)+1)=((M+2*a.ce+1:Nat):Int):=by rw[zan (by omega)];push_cast;rfl
   have ht2:(p.threads.map Thread.enc)[a.th]? =some x.enc:=by rw[zJ,hx];rfl
   have hln:(rowsI ((AL.take i).map fun a=>((clsM p a:Nat):Int))).length<2^32:=by
    have:=zb9 p l1 (fun x hx=>(l5 x hx).2.1) _ (Nat.le_refl _);rw[zai,List.length_map,List.length_take,<- hAL];unfold accsM;omega
   have hsnoc:rowsI ((AL.take i).map fun a=>((clsM p a:Nat):Int))++[[V.t (T.int .i64 (clsM p a))]]=rowsI ((AL.take (i+1)).map fun a=>((clsM p a:Nat):Int)):=by
    rw[zae ha];simp[rowsI]
   have hrow:=zcS hat;have hrlen:(rowsU (mskN p i)).length=N:=by rw[zbJ,zcX,hNe]
   have hcb:((clsM p a:Int)<N)=True:=by simp;omega
   have hs1:=zmo (i:=a.st) hok.2.1;have hor:=zpd hm0 (one_lt (i:=a.st) hok.2.1);simp -dsimp only[go_sem,seval,h33,ha,↓hT,hsz,hm1,hm2,hm3]
   by_cases hA:a.wr=true/\a.ce<p.cells.length
   ·obtain⟨hA1,hA2⟩:=hA;have hA3:((a.ce:Int)<p.cells.length)=True:=by simp;omega
    rw[hA1,decide_eq_true hA2,Bool.true_and,Bool.true_or,if_pos rfl]at hcl;rw[<- hcl]at hm4;have v1:=hO.valOf;have hO0:=hO.le (y:=z+1) (by omega);have v5:=hO0.r5;simp -dsimp only[go_sem,seval,hA1,hA2,hA3,hm4,hG,v1,v5];refine zas (hO0.upd (by omega) _) (by omega) hln (by decide) rfl (rowsI_all _) ?_;intro v hp' hO2 hoffs hkeep;obtain⟨kv,mv,rfl⟩:=hO2.msE (by simp);have yG:=hkeep (n+2+6) (by omega) (hO.offR hG (by decide));have yM:=hkeep (n+2+8+7) (by omega) hof;have yK:=hkeep (n+2+4) (by omega) (hO.offM hK);rw[zac,if_neg (by omega),hG]at yG;rw[zac,if_neg (by omega),hM]at yM;rw[zac,if_neg (by omega),hK]at yK;have k1:=hoffs (n+2+8+7) (by omega);have k2:=hoffs (n+2+6) (by omega);rw[hsnoc]at hO2;simp -dsimp only[go_sem,seval,yG,yM,yK,hrow,hrlen,hcb,hs1,hor,h33,hn9,hq1,hq2,hq3,hq4,hq5];refine⟨by omega,by simp -dsimp only[go_sem,seval,h33,hw],by simp -dsimp only[go_sem,seval];omega,by simp -dsimp only[go_sem,seval,zbI,hsucc],by simp -dsimp only[go_sem,seval,yK,hq2,hq4],.ms kv 0 mv,?_,k1,by simp -dsimp only[go_sem,seval,hq1,hn9]⟩;simp -dsimp only[go_sem,seval];refine((hO2.updO k2 _).updO k1 _).le ?_;omega
   ·have hwc:a.wr=false\/(a.wr=true/\((a.ce:Int)<p.cells.length)=False):=by
     cases hwr:a.wr
     ·exact .inl rfl
     ·refine .inr ⟨rfl,?_⟩;have : ¬a.ce<p.cells.length:=fun h=>hA ⟨hwr,h⟩
      simp;omega
    have hfl:(a.wr&&decide (a.ce<p.cells.length))=false:=by
     rcases hwc with h | ⟨h,h2⟩
     ·rw[h];rfl
     ·simp at h2;rw[h];simp;omega
    rw[hfl,Bool.false_or]at hcl;have v1:=hO.valOf;rcases hwc with hw1 | ⟨hw1,hw2⟩
    all_goals
     first | simp -dsimp only[go_sem,seval,hw2,hw1] | simp -dsimp only[go_sem,seval,hw1]
     refine zav (gstepH_den _ p a.th a.st _ _ hG hx hs) ?_;rintro r h' n' ⟨rfl,rfl,hn'⟩
     have hzn:z<=n':=by
      refine Nat.le_trans ?_ hn';omega
     have hO0:=hO.le hzn;have v2:=hO0.r1;have v3:=hO0.r2;have v4:=hO0.r3;have v5:=hO0.r4
     by_cases hk:s.kind=7
     ·rw[decide_eq_true hk,if_pos rfl]at hcl;rw[<- hcl]at hm4;simp -dsimp only[go_sem,seval,hk,hm4,hG,v1,v2,v3,v4,v5];refine zas (hO0.upd (by omega) _) (by omega) hln (by decide) rfl (rowsI_all _) ?_;intro v hp' hO2 hoffs hkeep;obtain⟨kv,mv,rfl⟩:=hO2.msE (by simp);have yG:=hkeep (n+2+6) (by omega) (hO.offR hG (by decide));have yM:=hkeep (n+2+8+7) (by omega) hof;have yK:=hkeep (n+2+4) (by omega) (hO.offM hK);rw[zac,if_neg (by omega),hG]at yG;rw[zac,if_neg (by omega),hM]at yM;rw[zac,if_neg (by omega),hK]at yK;have k1:=hoffs (n+2+8+7) (by omega);have k2:=hoffs (n+2+6) (by omega);rw[hsnoc]at hO2;simp -dsimp only[go_sem,seval,yG,yM,yK,hrow,hrlen,hcb,hs1,hor,h33,hn9,hq1,hq2,hq3,hq4,hq5];refine⟨by omega,by simp -dsimp only[go_sem,seval,h33,hw],by simp -dsimp only[go_sem,seval];omega,by simp -dsimp only[go_sem,seval,zbI,hsucc],by simp -dsimp only[go_sem,seval,yK,hq2,hq4],.ms kv 0 mv,?_,k1,by simp -dsimp only[go_sem,seval,hq1,hn9]⟩;simp -dsimp only[go_sem,seval];refine((hO2.updO k2 _).updO k1 _).le ?_;omega
     ·have hk':(s.kind=7)=False:=by simp[hk]
      rw[decide_eq_false hk]at hcl;simp only[zG,if_false,Nat.add_zero]at hcl;rw[hcl]at hsucc hrow hcb hsnoc;simp -dsimp only[go_sem,seval,hk',hG,v1,v2,v3,v4,v5];refine zas (hO0.upd (by omega) _) (by omega) hln (by decide) rfl (rowsI_all _) ?_;intro v hp' hO2 hoffs hkeep;obtain⟨kv,mv,rfl⟩:=hO2.msE (by simp);have yG:=hkeep (n+2+6) (by omega) (hO.offR hG (by decide));have yM:=hkeep (n+2+8+7) (by omega) hof;have yK:=hkeep (n+2+4) (by omega) (hO.offM hK);rw[zac,if_neg (by omega),hG]at yG;rw[zac,if_neg (by omega),hM]at yM;rw[zac,if_neg (by omega),hK]at yK;have k1:=hoffs (n+2+8+7) (by omega);have k2:=hoffs (n+2+6) (by omega);rw[hsnoc]at hO2;simp -dsimp only[go_sem,seval,yG,yM,yK,hrow,hrlen,hcb,hs1,hor,h33,hn9,hq1,hq2,hq3,hq4,hq5];refine⟨by omega,by simp -dsimp only[go_sem,seval,h33,hw],by simp -dsimp only[go_sem,seval];omega,by simp -dsimp only[go_sem,seval,zbI,hsucc],by simp -dsimp only[go_sem,seval,yK,hq2,hq4],.ms kv 0 mv,?_,k1,by simp -dsimp only[go_sem,seval,hq1,hn9]⟩;simp -dsimp only[go_sem,seval];refine((hO2.updO k2 _).updO k1 _).le ?_;omega
  ·have hia:i=AL.length:=by omega
   subst hia;rw[List.take_length]at hO
   have hmsk:mskN p AL.length=(grM p model).msk:=by
    rw[<- hAL];unfold mskN;rw[List.take_length];rfl
   rw[hmsk]at hM
   refine zaj 10384591241189576686300442860193280 p.threads.length (fun k f h x=>(f 91).v=vi k/\n+18<=x/\h (n+2+8+7)=some (.rows 1 (rowsU (grM p model).msk) false)/\h (n+2+4)=some (.map [])/\OwnB h x cv 1 (rowsI (AL.map fun a=>((clsM p a:Nat):Int)))/\
    h (n+2+6)=some (.rows 521 [rowG (p.cells.map Cell.enc) (p.modules.map Contract.enc) (p.locks.map Lock.enc) (p.threads.map Thread.enc) model (AL.map Acc.enc) cv (.ms (n+2+8+7) 0 N) (fstR (grM p model).ldAt k) (fstR (grM p model).qkAt k) (n+2+4)] false)) rfl ?_ ?_
   ·refine⟨by simp -dsimp only[go_sem,seval],by simp -dsimp only[go_sem,seval];omega,by simp -dsimp only[go_sem,seval,hM],by simp -dsimp only[go_sem,seval,hK],by(try simp -dsimp only[go_sem,seval]);exact hO.le (by(try simp -dsimp only[go_sem,seval])<;>omega),by simp -dsimp only[go_sem,seval,hG];rfl⟩
   ·rintro k f2 u2 H2 z2 bs2 hk ⟨h91,hz2,hM2,hK2,hO2,hG2⟩;have hw2:=zah k (by omega);simp -dsimp only[go_sem,seval,h91];refine csplit (fun h=> ?_) (fun h=> ?_)<;>(try rw[h])<;>(try simp only[zab]at h)<;>(try simp -dsimp only[go_sem,seval,h91])
    ·obtain⟨x,hx,hxm⟩:=zaf ‹k<p.threads.length›;have hr1:=zgT 312 _ zjT x.steps (l5 x hxm).2.1;have hr2:=zgT 313 _ zjS x.steps (l5 x hxm).2.1;have hk4:((k:Int)<4)=True:=by simp;omega
     have hrl:=zdr (fstR (grM p model).ldAt k) (fstR (grM p model).qkAt k) (n+2+4);have ha1:(arr (reachM (fun _=>true) x.steps)).length=64:=by rw[zbb,reachM_len _ (l5 x hxm).2.1]
     have ha2:(arr (reachM innerM x.steps)).length=64:=by rw[zbb,reachM_len _ (l5 x hxm).2.1]
     have hc1:(8+k*64<=457)=True:=by simp;omega
     have hc2:(264+k*64<=457)=True:=by simp;omega
     have hgl:= @zmF (p.cells.map Cell.enc) (p.modules.map Contract.enc) (p.locks.map Lock.enc) (p.threads.map Thread.enc) (AL.map Acc.enc) model cv (.ms (n+2+8+7) 0 N) (fstR (grM p model).ldAt k) (fstR (grM p model).qkAt k) (n+2+4) k (reachM (fun _=>true) x.steps) (by omega) (reachM_len _ (l5 x hxm).2.1);have hgq:= @zmE (p.cells.map Cell.enc) (p.modules.map Contract.enc) (p.locks.map Lock.enc) (p.threads.map Thread.enc) (AL.map Acc.enc) model cv (.ms (n+2+8+7) 0 N) (fstR (grM p model).ldAt (k+1)) (fstR (grM p model).qkAt k) (n+2+4) k (reachM innerM x.steps) (by omega) (reachM_len _ (l5 x hxm).2.1)
     have e0: ∀(F:Nat->Nat->Nat) (l:List Nat),(∀i,F k i=l.getD i 0)->updR (fstR F k) k l=fstR F (k+1):=by
      intro F l hF
      funext t i
      unfold updR fstR
      by_cases h1:t=k
      ·subst h1;simp[hF]
      ·rw[if_neg h1]
       by_cases h2:t<k
       ·rw[if_pos h2,if_pos (by omega)]
       ·rw[if_neg h2,if_neg (by omega)]
     have e1:=e0 (grM p model).ldAt (reachM (fun _=>true) x.steps) (fun i=>by simp[Gr.ldAt,grM,List.getD_eq_getElem?_getD,hx]);have e2:=e0 (grM p model).qkAt (reachM innerM x.steps) (fun i=>by simp[Gr.qkAt,grM,List.getD_eq_getElem?_getD,hx]);rw[e1]at hgl;rw[e2]at hgq;have hrl2:=zdr (fstR (grM p model).ldAt (k+1)) (fstR (grM p model).qkAt k) (n+2+4);simp -dsimp only[go_sem,seval,h91,hx,hr1,hr2,hG2,hk4,ha1,ha2,hrl,hrl2,hgl,hgq,hc1,hc2];refine⟨by omega,by simp -dsimp only[go_sem,seval,h91,hw2],by simp -dsimp only[go_sem,seval];omega,by simp -dsimp only[go_sem,seval,hM2,hn9,hq1],by simp -dsimp only[go_sem,seval,hK2,hq2],?_,by simp -dsimp only[go_sem,seval]⟩;simp -dsimp only[go_sem,seval];have ho:=hO2.offR hG2 (by decide);refine((hO2.updO ho _).updO ho _).le ?_;omega
    ·have hkn:k=p.threads.length:=by omega
     subst hkn
     have hfl: ∀f:Nat->Nat->Nat,(∀t i,p.threads.length<=t->f t i=0)->fstR f p.threads.length=f:=by
      intro f hf
      funext t i
      unfold fstR;split
      ·rfl
      ·rw[hf t i (by omega)]
     rw[hfl (grM p model).ldAt (fun t i h=>by simp[Gr.ldAt,grM,List.getD_eq_getElem?_getD,List.getElem?_eq_none h]),hfl (grM p model).qkAt (fun t i h=>by simp[Gr.qkAt,grM,List.getD_eq_getElem?_getD,List.getElem?_eq_none h])]at hG2;refine⟨n+2+6,rfl,⟨cv,n+2+8+7,n+2+4,?_,?_,hM2,hK2,?_,?_,?_⟩⟩
     ·rw[hG2,show(grM p model).msk.length=N by simp[grM,hNe],show(grM p model).all=AL from hAL]
     ·rw[show(grM p model).cls=(accsM p).map (clsM p)from rfl,hAL,List.map_map]
      (try simp -dsimp only[go_sem,seval])
      refine hO2.le ?_;omega
     ·(try simp -dsimp only[go_sem,seval]);omega
     ·(try simp -dsimp only[go_sem,seval]);omega
     ·(try simp -dsimp only[go_sem,seval]);omega
end Rg
end
section
namespace Rg
open Go
theorem zq2 {x:Nat} (hx:x<2^62):(BitVec.ofInt 64 (x:Int)).toNat=x:=by simp[BitVec.toNat_ofInt];omega
theorem zt9 {a b:Nat} (ha:a<2^62) (hb:b<2^62):IntKind.i64.wrap ((BitVec.ofInt IntKind.i64.bits (a:Int) ||| BitVec.ofInt IntKind.i64.bits (b:Int)).toNat:Int)=((a ||| b:Nat):Int):=by
 show IntKind.i64.wrap ((BitVec.ofInt 64 (a:Int) ||| BitVec.ofInt 64 (b:Int)).toNat:Int)=_;have:=Nat.or_lt_two_pow ha hb;rw[BitVec.toNat_or,zq2 ha,zq2 hb,zan (by omega)]
theorem zqc {a:Nat} (ha:a<2^62):IntKind.i64.wrap ((BitVec.ofInt IntKind.i64.bits (a:Int)&&& BitVec.ofInt IntKind.i64.bits 1).toNat:Int)=((a&&& 1:Nat):Int):=by
 show IntKind.i64.wrap ((BitVec.ofInt 64 (a:Int)&&& BitVec.ofInt 64 ((1:Nat):Int)).toNat:Int)=_;have:a&&& 1<=a:=Nat.and_le_left;rw[BitVec.toNat_and,zq2 ha,zq2 (by omega),zan (by omega)]
theorem zqb {i:Nat} (h:i<62):(if(i:Int)<0 then none else some (T.int .i64 (IntKind.i64.wrap (1*2^min i 64))))=some (T.int .i64 ((1<<< i:Nat):Int)):=by
 rw[if_neg (by omega),Nat.min_eq_left (by omega)];have e:(1*2^i:Int)=((1<<< i:Nat):Int):=by rw[Nat.one_shiftLeft];push_cast;omega
 have h2:(1<<< i:Nat)<2^62:=by rw[Nat.one_shiftLeft];exact Nat.pow_lt_pow_right (by omega) h
 rw[e]
 generalize(1<<< i:Nat)=q at h2⊢
 rw[zan (by omega)]
theorem zsU (a i:Nat) (h:i<=64):(if(i:Int)<0 then none else some (T.int .i64 ((a:Int).fdiv (2^min i 64))))=some (T.int .i64 ((a>>> i:Nat):Int)):=by
 rw[if_neg (by omega),Nat.min_eq_left h]
 congr 2
 rw[Nat.shiftRight_eq_div_pow,Int.fdiv_eq_ediv_of_nonneg _ (by exact Int.le_of_lt (Int.pow_pos (by omega)))];simp
def keyT (goal c m r:Nat):T:=.sl [[ti goal,ti c,ti m,ti r]]
def zcb (g:Gr) (es:List (T×V)):Prop:= ∀e∈es,∃goal c m r:Nat,e.1=keyT goal c m r/\e.2=vb (g.ends r goal c m)
theorem znY (a b c d a' b' c' d':Nat):zcm (keyT a b c d) (keyT a' b' c' d')=some (decide (a=a'/\b=b'/\c=c'/\d=d')):=by
 have h: ∀x y:Nat,(((x:Int)==(y:Int)):Bool)=decide (x=y):=by intro x y;rw[zvX];simp[Int.ofNat_inj]
 simp only[keyT,zcm,zcp,ziP,if_true,h,zC,zD,Bool.and_true,Bool.decide_and]
theorem zg1 {g:Gr} (goal c m r:Nat): ∀{es:List (T×V)},zcb g es->mapFind (keyT goal c m r) es=some none\/mapFind (keyT goal c m r) es=some (some (vb (g.ends r goal c m)))
 | [],_=> .inl rfl
 | e::es,h=>by
   obtain⟨a,b,c',d,h1,h2⟩:=h e List.mem_cons_self;obtain⟨k,v⟩:=e;simp only at h1 h2;subst h1 h2;simp only[mapFind,znY]
   by_cases he:goal=a/\c=b/\m=c'/\r=d
   ·rw[decide_eq_true he];obtain⟨rfl,rfl,rfl,rfl⟩:=he;exact .inr rfl
   ·rw[decide_eq_false he];exact zg1 goal c m r fun e he=>h e (List.mem_cons_of_mem _ he)
theorem zge {g:Gr} (goal c m r:Nat): ∀{es:List (T×V)},zcb g es-> ∃es',mapPut (keyT goal c m r) (vb (g.ends r goal c m)) es=some es'/\zcb g es'
 | [],_=>⟨_,rfl,fun e he=>by rw[List.mem_singleton.1 he];exact⟨goal,c,m,r,rfl,rfl⟩⟩
 | e::es,h=>by
   obtain⟨a,b,c',d,h1,h2⟩:=h e List.mem_cons_self;obtain⟨k,v⟩:=e;simp only at h1 h2;subst h1 h2;simp only[mapPut,znY]
   by_cases he:goal=a/\c=b/\m=c'/\r=d
   ·rw[decide_eq_true he];refine⟨_,rfl,fun e he'=> ?_⟩;rcases List.mem_cons.1 he' with rfl | h1
    ·exact⟨goal,c,m,r,rfl,rfl⟩
    ·exact h e (List.mem_cons_of_mem _ h1)
   ·rw[decide_eq_false he];obtain⟨es',h1,h2⟩:=zge goal c m r (es:=es) fun e he=>h e (List.mem_cons_of_mem _ he)
    refine⟨_,by rw[h1];rfl,fun e he'=> ?_⟩;rcases List.mem_cons.1 he' with rfl | h3
    ·exact h _ List.mem_cons_self
    ·exact h2 e h3
structure GrB (H:Nat->Option O) (kG kM kn:Nat) (cv:V) (p:Prog) (model:Int) (g:Gr) (f1 f2:Bool):Prop where
 row:H kG=some (.rows 521 [rowG (p.cells.map Cell.enc) (p.modules.map Contract.enc) (p.locks.map Lock.enc) (p.threads.map Thread.enc) model (g.all.map Acc.enc) cv (.ms kM 0 g.msk.length) g.ldAt g.qkAt kn] f1)
 cls:Shw H cv 1 (g.cls.map fun c:Nat=>[ti c])
 msk:H kM=some (.rows 1 (rowsU g.msk) f2)
 neG:kG≠kn
 neM:kM≠kn
 off:zc1 cv kn
 ok:g.Ok
 nt4:g.nt<=4
 nc:g.nc=p.cells.length
 cl:p.cells.length<=32
 nt:g.nt=p.threads.length
noncomputable def HM (H:Nat->Option O) (kn:Nat) (es:List (T×V)):Nat->Option O:=updC H kn (some (.map es))
theorem zoa (H:Nat->Option O) (kn:Nat) (es es':List (T×V)):updC (HM H kn es) kn (some (.map es'))=HM H kn es':=by
 funext k
 simp only[HM,zac];split<;>rfl
theorem HM_at (H:Nat->Option O) (kn:Nat) (es:List (T×V)):HM H kn es kn=some (.map es):=by rw[HM,zac,if_pos rfl]
theorem zmb (H:Nat->Option O) {k kn:Nat} (es:List (T×V)) (h:k≠kn):HM H kn es k=H k:=by rw[HM,zac,if_neg h]
namespace GrB
variable {H:Nat->Option O} {kG kM kn:Nat} {cv:V} {p:Prog} {model:Int} {g:Gr} {f1 f2:Bool} (b:GrB H kG kM kn cv p model g f1 f2)
include b
theorem rowM (es:List (T×V)):HM H kn es kG=some (.rows 521 [rowG (p.cells.map Cell.enc) (p.modules.map Contract.enc) (p.locks.map Lock.enc) (p.threads.map Thread.enc) model (g.all.map Acc.enc) cv (.ms kM 0 g.msk.length) g.ldAt g.qkAt kn] f1):=by rw[zmb _ _ b.neG,b.row]
theorem mskM (es:List (T×V)):HM H kn es kM=some (.rows 1 (rowsU g.msk) f2):=by rw[zmb _ _ b.neM,b.msk]
theorem clsM (es:List (T×V)):Shw (HM H kn es) cv 1 (g.cls.map fun c:Nat=>[ti c]):=by
 rcases b.cls with h | ⟨k,f,rfl,hk⟩
 ·exact .inl h
 ·refine .inr ⟨k,f,rfl,?_⟩;have:k≠kn:=by rintro rfl;exact b.off _ _ rfl
  rw[zmb _ _ this];exact hk
theorem tree (es:List (T×V)):toT1 (HM H kn es) (.mp kG 0 0)=some (.t (grT (p.cells.map Cell.enc) (p.modules.map Contract.enc) (p.locks.map Lock.enc) (p.threads.map Thread.enc) model g)):=by
 have:=zeT (b.rowM es) (b.clsM es) (by
  intro e he t ht;obtain⟨y,_,rfl⟩:=List.mem_map.1 he;simp only[List.mem_cons,List.not_mem_nil,or_false]at ht
  rw[ht];rfl) (msk_shw (b.mskM es) rfl) (u64_norm _) (HM_at H kn es)
 rw[this];simp only[grT,ints,List.map_map,restT];rfl
theorem szL:g.msk.length<=4*72:=by
 have h1:=b.nt4;have h2:=b.nc;have h3:=b.cl;rw[b.ok.msk_len];exact Nat.mul_le_mul b.nt4 (by unfold Gr.sz;omega)
theorem szE:g.sz=2*(p.cells.length+p.threads.length):=by unfold Gr.sz;rw[b.nc,b.nt]
theorem pos {c:Nat} (hc:c<g.msk.length):0<p.cells.length+p.threads.length:=by
 have h1:=b.ok.msk_len;have h2:=b.szE;apply Classical.byContradiction;intro h;have:g.sz=0:=by omega
 rw[this]at h1;omega
theorem thr_lt {c:Nat} (hc:c<g.msk.length):g.thr c<4:=by
 have h1:=b.ok.msk_len;have h2:=b.szE;have h3:=b.pos hc;have:g.thr c<g.nt:=by rw[Gr.thr,Nat.div_lt_iff_lt_mul (by omega),<- h1];exact hc
 have:=b.nt4;omega
theorem thr_den {c:Nat} (hc:c<g.msk.length):Den Γ G 316 [.t (grT (p.cells.map Cell.enc) (p.modules.map Contract.enc) (p.locks.map Lock.enc) (p.threads.map Thread.enc) model g),vi c]=some (vi (g.thr c)):=by
 have h0:=b.pos hc;have h1:=b.szL;have h2:=b.cl;have h3:=b.nt4;have h4:=b.nt;have:=zbL (p.cells.map Cell.enc) (p.modules.map Contract.enc) (p.locks.map Lock.enc) (p.threads.map Thread.enc) (.int .i64 model:: .sl (g.all.map Acc.enc)::ints (g.cls.map fun c:Nat=>(c:Int))::zpz g.msk::restT g) c (by simp;omega) (by simp;omega) (by simpa using h0) (by omega);simp only[List.length_map]at this;rw[<- b.szE]at this;exact this
theorem pr_den {c d:Nat} (hc:c<g.msk.length) (hd:d<g.msk.length):Den Γ G 321 [.t (grT (p.cells.map Cell.enc) (p.modules.map Contract.enc) (p.locks.map Lock.enc) (p.threads.map Thread.enc) model g),vi c,vi d]=some (vb (g.prec c d)):=by
 have h0:=b.pos hc;have h1:=b.szL;have h2:=b.cl;have h3:=b.nt4;have h4:=b.nt;have:=zmP (p.cells.map Cell.enc) (p.modules.map Contract.enc) (p.locks.map Lock.enc) (p.threads.map Thread.enc) (.int .i64 model:: .sl (g.all.map Acc.enc)::ints (g.cls.map fun c:Nat=>(c:Int))::zpz g.msk::restT g) c d (by simp;omega) (by simp;omega) (by simpa using h0) (by omega) (by omega);simp only[List.length_map]at this;rw[<- b.nc,<- b.nt]at this;exact this
theorem cp_den {c d:Nat} (hc:c<g.msk.length) (hd:d<g.msk.length):Den Γ G 325 [.t (grT (p.cells.map Cell.enc) (p.modules.map Contract.enc) (p.locks.map Lock.enc) (p.threads.map Thread.enc) model g),vi c,vi d]=some (vb (g.couple c d)):=by
 have h2:=b.cl;exact zjJ _ _ _ _ model g b.ok b.nt4 (by simp[b.nc]) (by simp;omega) (by simp[b.nt]) c d hc hd
end GrB
def PE (H:Nat->Option O) (kG kn:Nat) (g:Gr) (r:Nat):Prop:= ∀(goal c m:Nat) (es:List (T×V)) (n:Nat),goal<g.msk.length->c<g.msk.length->m<16->zcb g es->
 ∃rr h' n',DenR Γ G 315 [.mp kG 0 0,vi goal,vi c,vi m,vi r] (HM H kn es) n=some (rr,h',n')/\rr=vb (g.ends r goal c m)/\ ∃es',zcb g es'/\h'=HM H kn es'
def PO (H:Nat->Option O) (kG kn:Nat) (g:Gr) (r:Nat):Prop:= ∀(goal c m:Nat) (es:List (T×V)) (n:Nat),goal<g.msk.length->c<g.msk.length->m<16->zcb g es->
 ∃rr h' n',DenR Γ G 322 [.mp kG 0 0,vi goal,vi c,vi m,vi r] (HM H kn es) n=some (rr,h',n')/\rr=vb (g.opens r goal c m)/\ ∃es',zcb g es'/\h'=HM H kn es'
set_option maxHeartbeats 2000000
theorem opens_of {H:Nat->Option O} {kG kM kn:Nat} {cv:V} {p:Prog} {model:Int} {g:Gr} {f1 f2:Bool} (b:GrB H kG kM kn cv p model g f1 f2) {r:Nat} (hr:r<100) (h1:PE H kG kn g r) (h2:0<r->PE H kG kn g (r-1)):PO H kG kn g r:=by
 intro goal c m es n hg hc hm hes
 (refine denR_ofY Γ322 rfl ?_;dsimp only[zrw])
 simp -dsimp only[go_sem,seval];refine zav (h1 goal c m es _ hg hc hm hes) ?_;rintro _ h' n' ⟨rfl,es1,hes1,rfl⟩;cases he:g.ends r goal c m
 ·simp -dsimp only[go_sem,seval];have hM:=b.mskM es1;have hG:=b.rowM es1
  have hop:g.opens r goal c m=(decide (0<r)&&(List.range g.msk.length).any fun e=>decide (g.thr e=g.thr c)&&(g.couple c e&&g.ends (r-1) goal e m)):=by
   unfold Gr.opens;rw[he,Bool.false_or]
  have hsz:=b.szL;have hlen:(rowsU g.msk).length=g.msk.length:=zbJ _;simp -dsimp only[go_sem,seval,hG,hM];refine zaj 9007199246355456 g.msk.length (fun i f h x=>(f 23).v=vi i/\(∃es,zcb g es/\h=HM H kn es)/\g.opens r goal c m=(decide (0<r)&&(((List.range g.msk.length).drop i).any fun e=>decide (g.thr e=g.thr c)&&(g.couple c e&&g.ends (r-1) goal e m)))) rfl ⟨by simp -dsimp only[go_sem,seval],⟨es1,hes1,rfl⟩,hop⟩ ?_;clear hM hG hes hes1;rintro i f u h x bs hi ⟨h23,⟨es2,hes2,rfl⟩,hany⟩;have hw:=zah i (by omega);simp -dsimp only[go_sem,seval,h23];refine csplit (fun h=> ?_) (fun h=> ?_)<;>(try rw[h])<;>(try simp only[zab]at h)<;>(try simp -dsimp only[go_sem,seval,h23])
  ·have hic:i<g.msk.length:=by assumption
   have hT:=b.tree es2;have ht1:=b.thr_den hic;have ht2:=b.thr_den hc;have hcp:=b.cp_den hc hic;have hri:(List.range g.msk.length)[i]? =some i:=List.getElem?_range hic
   by_cases hr0:0<r
   ·have hr1:((r:Int)>0)=True:=by simp;omega
    have hr2:IntKind.i64.wrap ((r:Int)-1)=((r-1:Nat):Int):=by rw[zan (by omega)];omega
    rw[decide_eq_true hr0,Bool.true_and]at hany⊢;simp -dsimp only[go_sem,seval,hr1,h23,↓hT,ht1,ht2,hcp,zoH]
    by_cases hth:g.thr i=g.thr c
    ·simp -dsimp only[go_sem,seval,hth,h23,↓hT,ht1,ht2,hcp,zoH];cases hco:g.couple c i
     ·simp -dsimp only[go_sem,seval,h23];exact⟨by omega,by simp -dsimp only[go_sem,seval,h23,hw],⟨es2,hes2,rfl⟩,by rw[hany,zbT hri (by rw[hco];simp)]⟩
     ·simp -dsimp only[go_sem,seval,h23,hr2];refine zav (h2 hr0 goal i m es2 _ hg hic hm hes2) ?_;rintro _ h' n' ⟨rfl,es3,hes3,rfl⟩;simp -dsimp only[go_sem,seval,h23];cases hen:g.ends (r-1) goal i m
      ·simp -dsimp only[go_sem,seval,h23];exact⟨by omega,by simp -dsimp only[go_sem,seval,h23,hw],⟨es3,hes3,rfl⟩,by rw[hany,zbT hri (by rw[hen];simp)]⟩
      ·simp -dsimp only[go_sem,seval,h23];exact⟨by rw[hany,zgt hri (by rw[hen,hco,hth];simp)];rfl,es3,hes3,rfl⟩
    ·have hth':(g.thr i=g.thr c)=False:=by simp[hth]
     simp -dsimp only[go_sem,seval,hth',h23];exact⟨by omega,by simp -dsimp only[go_sem,seval,h23,hw],⟨es2,hes2,rfl⟩,by rw[hany,zbT hri (by simp[hth])]⟩
   ·have hr1:((r:Int)>0)=False:=by simp;omega
    simp -dsimp only[go_sem,seval,hr1,h23];rw[decide_eq_false hr0,Bool.false_and]at hany;exact⟨by omega,by simp -dsimp only[go_sem,seval,h23,hw],⟨es2,hes2,rfl⟩,by rw[hany,decide_eq_false hr0,Bool.false_and]⟩
  ·have hin:i=g.msk.length:=by omega
   subst hin;have hrn:=zil (fun e=>decide (g.thr e=g.thr c)&&(g.couple c e&&g.ends (r-1) goal e m)) (List.range g.msk.length);rw[List.length_range]at hrn;rw[hrn,Bool.and_false]at hany;exact⟨by rw[hany];rfl,es2,hes2,rfl⟩
 ·simp -dsimp only[go_sem,seval];exact⟨by unfold Gr.opens;rw[he,Bool.true_or];rfl,es1,hes1,rfl⟩
theorem mask_lt {m t:Nat} (hm:m<16) (ht:t<4):m ||| 1<<< t<16:=by
 have h1:1<<< t<2^4:=by rw[Nat.one_shiftLeft];exact Nat.pow_lt_pow_right (by omega) ht
 exact Nat.or_lt_two_pow (n:=4) hm h1
theorem zlK {H:Nat->Option O} {kG kM kn:Nat} {cv:V} {p:Prog} {model:Int} {g:Gr} {f1 f2:Bool} (b:GrB H kG kM kn cv p model g f1 f2):PE H kG kn g 0:=by
 intro goal c m es n hg hc hm hes;have hT:=b.tree es;have hp:=b.pr_den hc hg
 (refine denR_ofY Γ315 rfl ?_;dsimp only[zqf])
 simp -dsimp only[go_sem,seval,↓hT,hp];exact⟨rfl,es,hes,rfl⟩
theorem zoW {H:Nat->Option O} {kG kM kn:Nat} {cv:V} {p:Prog} {model:Int} {g:Gr} {f1 f2:Bool} (b:GrB H kG kM kn cv p model g f1 f2) {r:Nat} (hr:r<100) (h1:PO H kG kn g r):PE H kG kn g (r+1):=by
 intro goal c m es n hg hc hm hes;have hT:=b.tree es;have hG:=b.rowM es;have hM:=b.mskM es;have hK:=HM_at H kn es;have hr0:(((r+1:Nat):Int)=0)=False:=by simp;omega
 have hkey:keyOf 88 (.agg [vi goal,vi c,vi m,vi ((r+1:Nat):Int)])=some (keyT goal c m (r+1)):=rfl;have hrl:=zdr g.ldAt g.qkAt kn
 have hd2:List.drop 512 (restV g.ldAt g.qkAt kn)=[.mm kn]:=by
  rw[restV,List.drop_append_of_le_length (by rw[List.length_append,zaU,zaU];omega),List.drop_of_length_le (by rw[List.length_append,zaU,zaU];omega)];rfl
 (refine denR_ofY Γ315 rfl ?_;dsimp only[zqf])
 simp -dsimp only[go_sem,seval,hr0,hG,hd2,hrl,hkey,hK];rcases zg1 goal c m (r+1) hes with hf | hf
 ·have hsz:=b.szL;have hlen:(rowsU g.msk).length=g.msk.length:=zbJ _;have hsu:=Gr.ends_succ g r goal c m;simp -dsimp only[go_sem,seval,hf,hG,hM,Option.getD_none,Option.isSome_none];refine zaj 4835703278454118652334080 g.msk.length (fun i f h x=>(f 42).v=vi i/\(f 12).v=vb false/\(∃es,zcb g es/\h=HM H kn es)/\g.ends (r+1) goal c m=((List.range g.msk.length).drop i).any fun d=>g.ok c d m&&g.opens r goal d (m ||| 1<<< g.thr d)) rfl ⟨by simp -dsimp only[go_sem,seval],by simp -dsimp only[go_sem,seval],⟨es,hes,rfl⟩,hsu⟩ ?_;clear hM hG hes hT hK hf;rintro i f u h x bs hi ⟨h42,h12,⟨es2,hes2,rfl⟩,hany⟩;have hw:=zah i (by omega);have hT:=b.tree es2;have hG:=b.rowM es2;have hM:=b.mskM es2;have hK:=HM_at H kn es2;simp -dsimp only[go_sem,seval,h42];refine csplit (fun h=> ?_) (fun h=> ?_)<;>(try rw[h])<;>(try simp only[zab]at h)<;>(try simp -dsimp only[go_sem,seval,h42])
  ·have hic:i<g.msk.length:=by assumption
   have ht1:=b.thr_den hic;have hpr:=b.pr_den hc hic;have hmk:g.msk[i]? =some (g.mks i):=by simp[Gr.mks,List.getD_eq_getElem?_getD,zI hic]
   have hrow:=zcS hmk;have hci:(i<g.msk.length)=True:=by simp[hic]
   have hz0:(((g.mks i:Nat):Int)=0)=(g.mks i=0):=by simp
   have hth:=b.thr_lt hic;have hsh:=zsU m (g.thr i) (by omega);have hms:m>>> g.thr i<2^62:=Nat.lt_of_le_of_lt (Nat.shiftRight_le _ _) (by omega);have han:=zqc hms;have hbt:=zpx (a:=m) (i:=g.thr i) (by omega);have hsl:=zqb (i:=g.thr i) (by omega);have hor:=zt9 (a:=m) (b:=1<<< g.thr i) (by omega) (by have:=mask_lt (m:=0) (by omega) hth;rw[Nat.zero_or]at this;omega);have hsb:IntKind.i64.wrap (((r+1:Nat):Int)-1)=((r:Nat):Int):=by rw[zan (by omega)];omega
   have hri:(List.range g.msk.length)[i]? =some i:=List.getElem?_range hic;simp -dsimp only[go_sem,seval,h42,hG,hM,hrow,hlen,hci,hz0]
   by_cases hm0:g.mks i=0
   ·simp -dsimp only[go_sem,seval,hm0,h42];have hno:(g.ok c i m&&g.opens r goal i (m ||| 1<<< g.thr i))=false:=by simp[Gr.ok,hm0]
    exact⟨by omega,by simp -dsimp only[go_sem,seval,h42,hw],by simp -dsimp only[go_sem,seval,h12],⟨es2,hes2,rfl⟩,by rw[hany,zbT hri hno]⟩
   ·have hm0':(g.mks i=0)=False:=by simp[hm0]
    simp -dsimp only[go_sem,seval,hm0',h42,↓hT,ht1,hsh,han,hbt,hpr];cases htb:m.testBit (g.thr i)
    ·simp -dsimp only[go_sem,seval,h42,↓hT,hpr];cases hpc:g.prec c i
     ·simp -dsimp only[go_sem,seval,h42];have hno:(g.ok c i m&&g.opens r goal i (m ||| 1<<< g.thr i))=false:=by simp[Gr.ok,hpc]
      exact⟨by omega,by simp -dsimp only[go_sem,seval,h42,hw],by simp -dsimp only[go_sem,seval,h12],⟨es2,hes2,rfl⟩,by rw[hany,zbT hri hno]⟩
     ·simp -dsimp only[go_sem,seval,h42,↓hT,ht1,hsl,hor,hsb];refine zav (h1 goal i (m ||| 1<<< g.thr i) es2 _ hg hic (mask_lt hm hth) hes2) ?_;rintro _ h' n' ⟨rfl,es3,hes3,rfl⟩;simp -dsimp only[go_sem,seval,h42];cases hop:g.opens r goal i (m ||| 1<<< g.thr i)
      ·simp -dsimp only[go_sem,seval,h42];have hno:(g.ok c i m&&g.opens r goal i (m ||| 1<<< g.thr i))=false:=by rw[hop,Bool.and_false]
       exact⟨by omega,by simp -dsimp only[go_sem,seval,h42,hw],by simp -dsimp only[go_sem,seval,h12],⟨es3,hes3,rfl⟩,by rw[hany,zbT hri hno]⟩
      ·have hyes:(g.ok c i m&&g.opens r goal i (m ||| 1<<< g.thr i))=true:=by simp[Gr.ok,hm0,htb,hpc,hop]
       rw[zgt hri hyes]at hany;obtain⟨es4,hp4,hes4⟩:=zge goal c m (r+1) hes3;rw[hany]at hp4;have hG3:=b.rowM es3;have hK3:=HM_at H kn es3;have hup:=zoa H kn es3 es4;simp -dsimp only[go_sem,seval,hG3,hd2,hrl,hkey,hK3,hp4,hup];exact⟨by rw[hany];rfl,es4,hes4,by rw[zau,zaq];exact hup⟩
    ·simp -dsimp only[go_sem,seval,h42];have hno:(g.ok c i m&&g.opens r goal i (m ||| 1<<< g.thr i))=false:=by simp[Gr.ok,htb]
     exact⟨by omega,by simp -dsimp only[go_sem,seval,h42,hw],by simp -dsimp only[go_sem,seval,h12],⟨es2,hes2,rfl⟩,by rw[hany,zbT hri hno]⟩
  ·have hin:i=g.msk.length:=by omega
   subst hin;have hrn:=zil (fun d=>g.ok c d m&&g.opens r goal d (m ||| 1<<< g.thr d)) (List.range g.msk.length);rw[List.length_range]at hrn;rw[hrn]at hany;obtain⟨es4,hp4,hes4⟩:=zge goal c m (r+1) hes2;rw[hany]at hp4;have hup:=zoa H kn es2 es4;simp -dsimp only[go_sem,seval,hG,hd2,hrl,hkey,hK,hp4,hup,h12];exact⟨by rw[hany];rfl,es4,hes4,by rw[zau,zaq];exact hup⟩
 ·simp -dsimp only[go_sem,seval,hf,Option.getD_some,Option.isSome_some];exact⟨rfl,es,hes,rfl⟩
theorem ends_all {H:Nat->Option O} {kG kM kn:Nat} {cv:V} {p:Prog} {model:Int} {g:Gr} {f1 f2:Bool} (b:GrB H kG kM kn cv p model g f1 f2): ∀r,r<100->PE H kG kn g r
 | 0,_=>zlK b
 | r+1,h=>zoW b (by omega) (opens_of b (by omega) (ends_all b r (by omega)) fun hr=>by
    cases r with
    | zero=>omega
    | succ r=>exact ends_all b r (by omega))
theorem zlv {L:List (Nat×O)}: ∀{h:Nat->Option O} {k:Nat},(∀x∈L,x.1≠k)->hpC h L k=h k:=by
 induction L with
 | nil=>intro h k _;rw[zaq]
 | cons x L ih=>
   intro h k hx;rw[show x=(x.1,x.2)from rfl,zau,ih fun y hy=>hx y (List.mem_cons_of_mem _ hy),zac,if_neg (fun e=>hx x List.mem_cons_self e.symm)]
theorem zoP {k:Nat} {o:O}: ∀{L:List (Nat×O)} {h:Nat->Option O},(∀x∈L,x.1=k->x.2=o)->hpC h L k=h k\/hpC h L k=some o:=by
 intro L
 induction L with
 | nil=>intro h _;rw[zaq];exact .inl rfl
 | cons x L ih=>
   intro h hx;rw[show x=(x.1,x.2)from rfl,zau];rcases ih (h:=updC h x.1 (some x.2)) (fun y hy=>hx y (List.mem_cons_of_mem _ hy))with h1 | h1
   ·rw[h1,zac];split
    ·rename_i he;rw[hx x List.mem_cons_self he.symm];exact .inr rfl
    ·exact .inl rfl
   ·exact .inr h1
theorem zgh {h:Nat->Option O} {L:List Nat} {k sz:Nat} {rs:List (List V)} {f:Bool} (hk:h k=some (.rows sz rs f)): ∃f',hpC h (freezes h L) k=some (.rows sz rs f'):=by
 have:=zoP (k:=k) (o:=.rows sz rs true) (L:=freezes h L) (h:=h) (by
  intro x hx he;simp only[freezes,List.mem_filterMap]at hx;obtain⟨j,_,hj⟩:=hx;split at hj
  ·rename_i sz' rs' f' hq;cases hj;simp only at he;subst he;rw[hk]at hq;cases hq;rfl
  ·cases hj)
 rcases this with h1 | h1
 ·exact⟨f,by rw[h1,hk]⟩
 ·exact⟨true,h1⟩
theorem zoO {h:Nat->Option O} {L:List Nat} {k:Nat} {es:List (T×V)} (hk:h k=some (.map es)):hpC h (freezes h L) k=some (.map es):=by
 rw[<- hk];refine zlv fun x hx he=> ?_
 simp only[freezes,List.mem_filterMap]at hx;obtain⟨j,_,hj⟩:=hx;split at hj
 ·rename_i sz' rs' f' hq;cases hj;simp only at he;subst he;rw[hk]at hq;cases hq
 ·cases hj
theorem GrB.frz {H:Nat->Option O} {kG kM kn:Nat} {cv:V} {p:Prog} {model:Int} {g:Gr} {f1 f2:Bool} (b:GrB H kG kM kn cv p model g f1 f2) (es:List (T×V)) (L:List Nat):
 ∃H' f1' f2',hpC (HM H kn es) (freezes (HM H kn es) L)=HM H' kn es/\GrB H' kG kM kn cv p model g f1' f2':=by
 obtain⟨f1',h1⟩:=zgh (L:=L) (b.rowM es);obtain⟨f2',h2⟩:=zgh (L:=L) (b.mskM es);have h3:=zoO (L:=L) (HM_at H kn es);refine⟨hpC (HM H kn es) (freezes (HM H kn es) L),f1',f2',?_,⟨h1,?_,h2,b.neG,b.neM,b.off,b.ok,b.nt4,b.nc,b.cl,b.nt⟩⟩
 ·funext k
  by_cases hk:k=kn
  ·subst hk;rw[HM_at,h3]
  ·rw[zmb _ _ hk]
 ·rcases b.clsM es with h | ⟨k,f,rfl,hk⟩
  ·exact .inl h
  ·obtain⟨f',h4⟩:=zgh (L:=L) hk;exact .inr ⟨k,f',rfl,h4⟩
end Rg
end
section
namespace Rg
open Go
theorem grM_ask {p:Prog} (hp:p.ok) (model:Int):AskT (p.cells.map Cell.enc) (p.modules.map Contract.enc) (p.locks.map Lock.enc) (p.threads.map Thread.enc) model (grM p model):=by
 obtain⟨⟨l1,l2,l3,l4⟩,l5⟩:=limits_iff.1 (ok_iff.1 hp).lim
 have hal:(accsM p).length<2^20:=by
  have:=zb9 p l1 (fun x hx=>(l5 x hx).2.1) _ (Nat.le_refl _);unfold accsM;omega
 refine⟨zn0 hp model,l4,by simp[grM],by simpa using l1,by simp[grM],hal,fun i hi=> ?_,fun i hi=> ?_⟩
 ·have hma:(grM p model).ac i∈accsM p:=Gr.ac_mem (g:=grM p model) hi;obtain⟨x,s,hx1,hx2,_⟩:=zel.1 hma;have hear:(grM p model).ear ((grM p model).ac i)=(((grM p model).ac i).wr&&decide (s.kind=3)):=by show(_&&decide ((p.stepAt _ _).kind=3))=_;rw[zet hx1 hx2]
  rw[hear];exact zjA _ _ _ (p.threads.map Thread.enc) (x.steps.map Step.enc) _ _ _ _ _ _ _ _ _ _ _ _ _ _ _ _ _ s.kind _ _ _ _ (by rw[zJ,hx1];rfl) (by rw[zJ,hx2,Option.map_some,Step.enc,Expr.enc_eq];rfl)
 ·have hma:(grM p model).ac i∈accsM p:=Gr.ac_mem (g:=grM p model) hi;obtain⟨x,s,hx1,hx2,_⟩:=zel.1 hma;have hlat:(grM p model).lat ((grM p model).ac i)=lateM model s.kind s.release ((grM p model).ac i).wr:=by show lateM model (p.stepAt _ _).kind (p.stepAt _ _).release _=_;rw[zet hx1 hx2]
  rw[hlat];exact zlu _ _ _ (p.threads.map Thread.enc) (x.steps.map Step.enc) _ _ _ _ _ _ _ _ _ _ _ _ _ _ _ _ s.kind model s.release _ _ _ _ (by rw[zJ,hx1];rfl) (by rw[zJ,hx2,Option.map_some,Step.enc,Expr.enc_eq];rfl)
theorem zoZ (d:Bool) (h:Nat->Option O) (vs:List V) (K:V->(Nat->Option O)->Prop) (w:WK K):zid (some (.t (.sl []))) d h vs K w=K (.t (.sl [])) h:=by
 simp[zid,V.scalar,V.scalar2,V.scalar1,T.scalar]
theorem GrB.frzK {H:Nat->Option O} {kG kM kn:Nat} {cv:V} {p:Prog} {model:Int} {g:Gr} {f1 f2:Bool} (b:GrB H kG kM kn cv p model g f1 f2) {es:List (T×V)} {vs:List V} {r:V} {K:V->(Nat->Option O)->Prop}
 (hk: ∀H' f1' f2',GrB H' kG kM kn cv p model g f1' f2'->K r (HM H' kn es)):Rg.frzK (HM H kn es) vs r K:=by
 obtain⟨H',f1',f2',h1,b'⟩:=b.frz es (vs.flatMap (reach1 (HM H kn es)));unfold Rg.frzK;rw[h1];exact hk _ _ _ b'
def zkd:Option Nat->V
 | none=> .tup [vi 0,vb false]
 | some r=> .tup [vi r,vb true]
set_option maxHeartbeats 2000000
theorem shortest_den {H:Nat->Option O} {kG kM kn:Nat} {cv:V} {p:Prog} {model:Int} {g:Gr} {f1 f2:Bool} (b:GrB H kG kM kn cv p model g f1 f2)
 (ha:AskT (p.cells.map Cell.enc) (p.modules.map Contract.enc) (p.locks.map Lock.enc) (p.threads.map Thread.enc) model g) (es:List (T×V)) (hes:zcb g es) (n:Nat):
 ∃rr h' n',DenR Γ G 301 [.mp kG 0 0] (HM H kn es) n=some (rr,h',n')/\rr=zkd g.shortest/\ ∃H' f1' f2' es',GrB H' kG kM kn cv p model g f1' f2'/\zcb g es'/\h'=HM H' kn es':=by
 have hpd:=zkL ha;have hT:=b.tree es;have hpl:=fun c d=>(Gr.mem_pairs (g:=g) (c:=c) (d:=d)).1
 (refine denR_ofY Γ301 rfl ?_;dsimp only[f301])
 cases hp:g.pairs with
 | nil=>
   have hsn:g.shortest=none:=by
    rw[Gr.shortest_none];intro r _ _;unfold Gr.atRest;rw[hp];rfl
   rw[hp]at hpd;have hpd2:Den Γ G 314 [.t (grT (p.cells.map Cell.enc) (p.modules.map Contract.enc) (p.locks.map Lock.enc) (p.threads.map Thread.enc) model g)]=some (.t (.sl [])):=hpd;simp -dsimp only[go_sem,seval,↓hT,hpd2,zoZ]
   exact⟨by rw[hsn];rfl,H,f1,f2,es,b,hes,rfl⟩
 | cons x l=>
   rw[hp]at hpd;have hpd2:Den Γ G 314 [.t (grT (p.cells.map Cell.enc) (p.modules.map Contract.enc) (p.locks.map Lock.enc) (p.threads.map Thread.enc) model g)]=some (.t (.sl (pairT x::l.map pairT))):=hpd;simp -dsimp only[go_sem,seval,↓hT,hpd2,znn];refine b.frzK fun H1 e1 e2 b1=> ?_
   rw[show pairT x::l.map pairT=(x::l).map pairT from rfl,<- hp];have hne:(((g.pairs.length:Nat):Int)=0)=False:=by rw[hp];simp;omega
   have hN:g.nt<=4:=b.nt4;have hnt:=b.nt;simp -dsimp only[go_sem,seval,hne];have hsh:g.shortest=(((List.range (2*(g.nt-1))).map (· +1)).drop 0).find? g.atRest:=rfl;have hm1:IntKind.i64.wrap ((p.threads.length:Int)-1)=(p.threads.length:Int)-1:=zan (by omega);have hm2:IntKind.i64.wrap (2*((p.threads.length:Int)-1))=2*((p.threads.length:Int)-1):=zan (by omega)
   have hmp: ∀x∈g.pairs,x.1<g.msk.length/\x.2<g.msk.length:=by
    rintro⟨c,d⟩ hx;have:=hpl c d hx;exact⟨this.1,this.2.1⟩
   refine zaj 35184372080812 (2*(g.nt-1)) (fun i f h x=>(f 5).v=vi ((i+1:Nat):Int)/\(∃es,zcb g es/\h=HM H1 kn es)/\g.shortest=(((List.range (2*(g.nt-1))).map (· +1)).drop i).find? g.atRest) rfl ⟨by simp -dsimp only[go_sem,seval],⟨es,hes,rfl⟩,hsh⟩ ?_;clear hT b hpd hpd2 hsh hes;rintro i f u h z bs hi ⟨h5,⟨es1,hes1,rfl⟩,hfi⟩;have hG:=b1.rowM es1;have hw:=zah (i+1) (by omega);simp -dsimp only[go_sem,seval,h5,hG,hm1,hm2];refine csplit (fun h=> ?_) (fun h=> ?_)<;>(try rw[h])<;>(try simp only[zab]at h)<;>(try simp -dsimp only[go_sem,seval,h5])
   ·have hi2:i<2*(g.nt-1):=by omega
    have hri:((List.range (2*(g.nt-1))).map (· +1))[i]? =some (i+1):=by rw[zJ,List.getElem?_range hi2];rfl
    refine zaj 35184237871244 g.pairs.length (fun j f h x=>(f 27).v=vi j/\(∃es,zcb g es/\h=HM H1 kn es)/\g.atRest (i+1)=(g.pairs.drop j).any fun x=>g.ends (i+1) x.1 x.2 (1<<< g.thr x.2)) rfl ⟨by simp -dsimp only[go_sem,seval],⟨es1,hes1,rfl⟩,rfl⟩ ?_;clear hG hes1;rintro j f2 u2 h2 z2 bs2 hj ⟨h27,⟨es2,hes2,rfl⟩,hany⟩
    have hw2:=zah j (by have:g.pairs.length<2^20:=by
                         have h1:=Gr.pairsN_len (g:=g) g.msk.length;have h2:=b1.szL;have h3:g.msk.length*g.msk.length<=288*288:=Nat.mul_le_mul (by omega) (by omega);rw[Gr.pairsN_all]at h1;omega
                        omega)
    simp -dsimp only[go_sem,seval,h27];refine csplit (fun h=> ?_) (fun h=> ?_)<;>(try rw[h])<;>(try simp only[zab]at h)<;>(try simp -dsimp only[go_sem,seval,h27])
    ·obtain⟨⟨c,d⟩,hx,hxm⟩:=zaf ‹j<g.pairs.length›;obtain⟨hc,hd⟩:=hmp _ hxm;simp only at hc hd;have hT:=b1.tree es2;have htd:=b1.thr_den hd;have hth:=b1.thr_lt hd;have hsl:=zqb (i:=g.thr d) (by omega);simp -dsimp only[go_sem,seval,h27,hx,↓hT,htd,hsl,pairT,h5];refine zav (ends_all b1 (i+1) (by omega) c d (1<<< g.thr d) es2 _ hc hd (by have:=mask_lt (m:=0) (by omega) hth;rw[Nat.zero_or]at this;exact this) hes2) ?_;rintro _ h' n' ⟨rfl,es3,hes3,rfl⟩;simp -dsimp only[go_sem,seval,h5];cases hen:g.ends (i+1) c d (1<<< g.thr d)
     ·simp -dsimp only[go_sem,seval,h27];exact⟨by omega,by simp -dsimp only[go_sem,seval,h27,hw2],⟨es3,hes3,rfl⟩,by rw[hany,zbT hx (by simpa using hen)]⟩
     ·simp -dsimp only[go_sem,seval,h5];rw[zgt hx (by simpa using hen)]at hany;rw[zba hri,List.find?_cons_of_pos hany]at hfi;exact⟨by rw[hfi];rfl,H1,e1,e2,es3,b1,hes3,rfl⟩
    ·have hjn:j=g.pairs.length:=by omega
     subst hjn;rw[zil]at hany;rw[zba hri,List.find?_cons_of_neg (by rw[hany];simp)]at hfi;simp -dsimp only[go_sem,seval,h5];exact⟨by omega,by simp -dsimp only[go_sem,seval,hw],⟨es2,hes2,rfl⟩,hfi⟩
   ·have hin:i=2*(g.nt-1):=by omega
    subst hin;rw[List.drop_of_length_le (by simp),List.find?_nil]at hfi;exact⟨by rw[hfi];rfl,H1,e1,e2,es1,b1,hes1,rfl⟩
end Rg
end
section
namespace Rg
open Go
theorem GrObj.grB {H:Nat->Option O} {n kG:Nat} {p:Prog} {model:Int} (hp:p.ok) (h:GrObj H n kG p model (grM p model)): ∃kM kn cv,GrB H kG kM kn cv p model (grM p model) false false/\H=HM H kn []:=by
 obtain⟨cv,kM,kn,h1,h2,h3,h4,_,_,_⟩:=h.ex;obtain⟨⟨l1,l2,l3,l4⟩,l5⟩:=limits_iff.1 (ok_iff.1 hp).lim;refine⟨kM,kn,cv,⟨h1,?_,h3,?_,?_,h2.offM h4,zn0 hp model,l4,rfl,l1,rfl⟩,?_⟩
 ·refine OwnB.shw (es:=(grM p model).cls.map fun c:Nat=>[ti c]) (x:=n) ?_;have e:rowsI ((grM p model).cls.map fun c:Nat=>(c:Int))=((grM p model).cls.map fun c:Nat=>[ti c]).map (·.map V.t):=by simp only[rowsI,List.map_map];rfl
  rw[<- e];exact h2
 ·rintro rfl;rw[h1]at h4;cases h4
 ·rintro rfl;rw[h3]at h4;cases h4
 ·funext k
  by_cases hk:k=kn
  ·subst hk;rw[HM_at,h4]
  ·rw[zmb _ _ hk]
theorem zhy (p:Prog) (hs:p.sane):Den Γ G 299 [(.agg [.t (.sl ((p).cells.map (Cell.enc))),.t (.sl ((p).modules.map (Contract.enc))),.t (.sl ((p).locks.map (Lock.enc))),.t (.sl ((p).threads.map (Thread.enc)))])]=some (vb (validB p)):=by
 have hv:=zep p hs
 (refine den_ofY Γ299 rfl ?_;dsimp only[f299])
 simp -dsimp only[go_sem,seval,hv];rfl
theorem zcT (p:Prog) (hs:p.sane) (hset: ∀x∈p.threads,∀s∈x.steps,s.set.length<2^20) (model:Int):Den Γ G 289 [(.agg [.t (.sl ((p).cells.map (Cell.enc))),.t (.sl ((p).modules.map (Contract.enc))),.t (.sl ((p).locks.map (Lock.enc))),.t (.sl ((p).threads.map (Thread.enc)))]),vi model]=some (vb (robM p model)):=by
 have hv:=zhy p hs
 (refine den_ofY Γ289 rfl ?_;dsimp only[zrI])
 simp -dsimp only[go_sem,seval,hv];unfold robM;cases h:validB p
 ·simp -dsimp only[go_sem,seval];rfl
 ·have hp:p.ok:=by simpa[validB]using h
  simp -dsimp only[go_sem,seval];refine zav (build_den p hp hset model _ _) ?_;rintro _ h1 n1 ⟨kG,rfl,hg⟩;obtain⟨kM,kn,cv,b,hH⟩:=hg.grB hp;simp -dsimp only[go_sem,seval];rw[hH];refine zav (shortest_den b (grM_ask hp model) [] (fun e he=>by cases he) _) ?_;rintro _ h2 n2 ⟨rfl,H',f1',f2',es',b',hes',rfl⟩
  cases hsn:(grM p model).shortest with
  | none=>
    simp -dsimp only[go_sem,seval,zkd]
    rfl
  | some r=>
    simp -dsimp only[go_sem,seval,zkd];rfl
def zpD (p:Prog) (i:Nat) (x:Thread):Prop:=
 isLabel x.name=true/\(p.threads.take i).any (fun d=>d.name.toList==x.name.toList)=false/\(1<=x.points/\(x.asserts.length:Int)=x.points/\(x.modules.length:Int)=x.points)/\
  x.modules.all (fun m=>inR m p.modules.length)=true/\x.asserts.all (fun e=>truthOk p e false i)=true
def zsD (p:Prog):Prop:=(limitsM p).1=0/\cellsM p=0/\modulesM p=0/\locksM p=0
structure AtStep (p:Prog) (e:Int) (t s:Nat) (x:Thread) (y:Step):Prop where
 pre:zsD p
 before: ∀(j:Nat) (z:Thread),j<t->p.threads[j]? =some z->(threadErr p j z).1=0
 hx:p.threads[t]? =some x
 tp:zpD p t x
 hy:x.steps[s]? =some y
 steps: ∀(k:Nat) (z:Step),k<s->x.steps[k]? =some z->stepErr p t x.points z=0
 err:stepErr p t x.points y=e
 ne:e≠0
end Rg
end
section
namespace Rg
open Go
section
variable {p:Prog} {i k:Nat} {x:Thread}
end
end Rg
end
section
namespace Rg
open Go
section
variable {p:Prog} {i:Nat} {x x' : Thread}
end
end Rg
end
section
namespace Rg
open Go
structure Gr.Sub (a b:Gr):Prop where
 nc:a.nc=b.nc
 nt:a.nt=b.nt
 len:a.msk.length=b.msk.length
 mks: ∀c,zmc (a.mks c) (b.mks c)
 ld: ∀c,a.mks c≠0->a.ld.getD (a.thr c) []=b.ld.getD (b.thr c) []
 ea: ∀c,zmc (a.eaM c) (b.eaM c)
 la: ∀c,zmc (a.laM c) (b.laM c)
 qk: ∀c,a.eaM c≠0->a.qk.getD (a.thr c) []=b.qk.getD (b.thr c) []
namespace Gr.Sub
variable {a b:Gr} (h:a.Sub b)
include h
theorem sz:a.sz=b.sz:=by unfold Gr.sz;rw[h.nc,h.nt]
theorem thr (c:Nat):a.thr c=b.thr c:=by unfold Gr.thr;rw[h.sz]
theorem prec (c d:Nat):a.prec c d=b.prec c d:=by unfold Gr.prec;rw[h.nc,h.nt]
theorem ok {c d m:Nat} (hk:a.ok c d m=true):b.ok c d m=true:=by
 simp only[Gr.ok,zF,decide_eq_true_eq]at hk⊢;refine⟨(h.mks d).ne hk.1,?_,?_⟩
 ·rw[<- h.thr];exact hk.2.1
 ·rw[<- h.prec];exact hk.2.2
theorem couple {c d:Nat} (hk:a.couple c d=true):b.couple c d=true:=by
 unfold Gr.couple at hk⊢
 have h0:a.mks c≠0:=by
  intro h0;rw[h0]at hk;obtain⟨i,j,_,h1,_⟩:=zeI.1 hk;simp at h1
 rw[h.ld c h0]at hk;exact zdR (h.mks c) (h.mks d) (fun _ _ _ h=>h) hk
theorem ends: ∀(r goal c m:Nat),a.ends r goal c m=true->b.ends r goal c m=true
 | 0,goal,c,m,hk=>by rw[Gr.ends]at hk⊢;rw[<- h.prec];exact hk
 | 1,goal,c,m,hk=>by
   rw[Gr.ends,List.any_eq_true]at hk⊢;obtain⟨d,h1,h2⟩:=hk;rw[zF]at h2;refine⟨d,by rw[<- h.len];exact h1,?_⟩
   rw[h.ok h2.1,<- h.thr,ends 0 _ _ _ h2.2];rfl
 | r+2,goal,c,m,hk=>by
   rw[Gr.ends,List.any_eq_true]at hk⊢;obtain⟨d,h1,h2⟩:=hk;rw[zF,Bool.or_eq_true,List.any_eq_true]at h2;refine⟨d,by rw[<- h.len];exact h1,?_⟩;rw[h.ok h2.1,<- h.thr,Bool.true_and,Bool.or_eq_true,List.any_eq_true];rcases h2.2 with h3 | ⟨e,h3,h4⟩
   ·exact .inl (ends (r+1) _ _ _ h3)
   ·simp only[zF,decide_eq_true_eq]at h4;exact .inr ⟨e,by rw[<- h.len];exact h3,by rw[<- h.thr,h.couple h4.2.1,ends r _ _ _ h4.2.2];simp[h4.1]⟩
theorem isPair {c d:Nat} (hk:a.isPair c d=true):b.isPair c d=true:=by
 rw[Gr.isPair_iff]at hk⊢;obtain⟨h1,h2,h3,h4,h5⟩:=hk;refine⟨(h.ea c).ne h1,(h.la d).ne h2,by rw[<- h.thr,<- h.thr];exact h3,h4,?_⟩;rw[h.qk c h1]at h5;exact zdR (h.ea c) (h.la d) (fun _ _ _ h=>h) h5
theorem shortest (hb:b.shortest=none):a.shortest=none:=by
 rw[Gr.shortest_none]at hb⊢;intro r h1 h2;have:=hb r h1 (by rw[<- h.nt];exact h2);cases hr:a.atRest r
 ·rfl
 ·obtain⟨c,d,k1,k2,k3,k4⟩:=Gr.atRest_iff.1 hr;rw[show b.atRest r=true from Gr.atRest_iff.2 ⟨c,d,by rw[<- h.len];exact k1,by rw[<- h.len];exact k2,h.isPair k3,by rw[<- h.thr];exact h.ends _ _ _ _ k4⟩]at this;exact this
end Gr.Sub
section
variable {p:Prog} {t:Nat} {x:Thread}
end
end Rg
end
