/- Part of the proof of laws of relyguardlaw31. No condition. -/
import Derived.Shelf.Sort.Plain
import Derived.Shelf.Slices.In.SortNone
import Derived.Shelf.Slices.CompactI
import Derived.Shelf.Slices.Clone
import Derived.Test.YtcmeofagpechdaaGreatDoorPartAM
import Derived.Shelf.SlicesE.Clone
import Derived.Test.YtcmeofagpechdaaGreatDoorRows
import Derived.KernelRfl
import Derived.Test.YtcmeofagpechdaaGreatDoorPartAO
set_option linter.unusedSimpArgs false
set_option linter.unusedVariables false
section
namespace Rg
open Go Go.Sort Go.Shelf
theorem intsOf_get: ∀{rs:List (List V)} {zs:List Int},intsOf rs=some zs->rs.length=zs.length/\ ∀(i:Nat) (z:Int),zs[i]? =some z->rs[i]? =some [.t (.int .i64 z)]
 | [],zs,h=>by simp only[intsOf,zA]at h;subst h;simp
 | row::r,zs,h=>by
   unfold intsOf at h;split at h
   ·rename_i h0;simp at h0
   ·rename_i z r' h0;simp only[List.cons.injEq]at h0;obtain⟨rfl,rfl⟩:=h0;rw[zE]at h;obtain⟨zs',hz,rfl⟩:=h;obtain⟨h1,h2⟩:=intsOf_get hz;refine⟨by simp[h1],fun i z' hi=> ?_⟩
    cases i with
    | zero=>simp at hi;subst hi;rfl
    | succ i=>simpa using h2 i z' (by simpa using hi)
   ·cases h
theorem zgU (c:Array Value) (ys:List Int) (j:Nat):(putCells (Value.int .i64) 0 ys.toArray c)[j]? =(c[j]?).map fun x=>match ys[j]? with | some y=>Value.int .i64 y | none=>x:=by
 unfold putCells;rw[Array.getElem?_mapIdx]
 cases hc:c[j]? with
 | none=>rfl
 | some x=>
   simp only[Option.map_some,zA]
   by_cases hj:j<ys.length
   ·rw[if_pos (by simp[hj]),zI hj];simp[hj]
   ·rw[if_neg (by simp;omega),List.getElem?_eq_none (by omega)]
theorem zd1 (w:World) (q b:Nat) (ys:List Int) (r:Nat) (x:TypeId×Nat) (hx:w.shape? r=some x):(putRow (Value.int .i64) (Sort.ahead w q) b 0 ys.toArray).shape? r=some x:=by
 unfold World.shape? at hx⊢;simp only[putRow,mapBlock,Sort.ahead,Array.getElem?_modify]
 by_cases h:b=r
 ·subst h;rw[if_pos rfl]
  cases ho:w.heap[b]? with
  | none=>rw[ho]at hx;cases hx
  | some o=>
    rw[ho]at hx
    cases o with
    | cells c e fr=>simpa[onCells,putCells]using hx
    | _=>cases hx
 ·rw[if_neg h];exact hx
section
variable {N:Nam} {c:Ctx} {A:Nat->Prop} {μ lam:Nat->Nat} {w:World} {H:Nat->Option O} {n:Nat}
theorem rel_putInts (R:Rel N c 0 A μ lam (.init [] H n) zaB w) {k:Nat} {rs:List (List V)} (hk:H k=some (.rows 1 rs false)) (ys:List Int) (hl:ys.length=rs.length) (q:Nat):
 Rel N c 0 A μ lam (.init [] (upd H k (some (.rows 1 (ofInts ys) false))) n) zaB (putRow (Value.int .i64) (Sort.ahead w q) (μ k) 0 ys.toArray):=by
 obtain⟨cc,e0,z,h1,h2,h3,h4,h5⟩:=R.heap k _ hk;have hz:=h2 rfl;subst hz
 have hget: ∀r,(putRow (Value.int .i64) (Sort.ahead w q) (μ k) 0 ys.toArray).heap[r]? =if μ k=r then(w.heap[r]?).map (onCells (putCells (Value.int .i64) 0 ys.toArray))else w.heap[r]? :=by
  intro r;simp only[putRow,mapBlock,Sort.ahead,Array.getElem?_modify]
 refine R.changeH (o':= .rows 1 (ofInts ys) false) hk ⟨rfl,by simp[ofInts,hl]⟩ rfl (by simp) (by simp) rfl ?_ ?_ ?_ ?_ ⟨rfl,rfl⟩
 ·simp[putRow,mapBlock,Sort.ahead]
 ·intro r hr;rw[hget,if_neg (fun h=>hr h.symm)]
 ·exact fun r x hx=>zd1 w q (μ k) ys r x hx
 ·intro E;refine⟨putCells (Value.int .i64) 0 ys.toArray cc,e0,(0,0),?_,fun _=>rfl,?_,?_,?_⟩
  ·rw[hget,if_pos rfl,h1];rfl
  ·have:(putCells (Value.int .i64) 0 ys.toArray cc).size=cc.size:=by simp[putCells]
   rw[this];simp[ofInts,hl];omega
  ·intro i row hi;simp only[ofInts,zJ,zE]at hi;obtain⟨y,_,rfl⟩:=hi;rfl
  ·intro i row j x hi hj;simp only[ofInts,zJ,zE]at hi;obtain⟨y,hy,rfl⟩:=hi
   have hj0:j=0:=by
    have:=(zH.1 hj).1;simp at this;exact this
   subst hj0;simp only[List.getElem?_cons_zero,zA]at hj;subst hj;have hlt:i<ys.length:=(zH.1 hy).1;obtain⟨row,hrow⟩: ∃row,rs[i]? =some row:=⟨_,zI (by omega)⟩
   have hrl:=h4 i row hrow;obtain⟨x0,hx0⟩: ∃x0,row[0]? =some x0:=⟨_,zI (by omega)⟩
   obtain⟨v,hv,_⟩:=h5 i row 0 x0 hrow hx0;refine⟨.int .i64 y,?_,.t (.int _ _)⟩;rw[zgU,hv];simp[hy]
theorem zmJ (R:Rel N c 0 A μ lam (.init [] H n) zaB w) (os:Array Obj):Rel N c 0 A μ lam (.init [] H n) zaB (grow w os):=by
 have hget: ∀r,r<w.heap.size->(grow w os).heap[r]? =w.heap[r]? :=fun r hr=>by simp[grow,Array.getElem?_append,hr]
 refine R.world (by simp[grow]) ?_ ?_ ?_ (Marks.nil _ _ _) ⟨rfl,rfl⟩
 ·rintro r (h | h | ⟨k,o,hk,hl,rfl⟩)
  ·exact hget r (R.alt r h)
  ·obtain⟨t,ht,_⟩:=h;simp[St.init]at ht
  ·exact hget _ (R.lt_live hk hl)
 ·intro r hr _;exact hget r (Nat.lt_of_lt_of_le hr R.csize)
 ·intro r x hx;unfold World.shape? at hx⊢
  by_cases hr:r<w.heap.size
  ·rw[hget r hr];exact hx
  ·rw[Array.getElem?_eq_none (by omega)]at hx;cases hx
theorem rel_below (R:Rel N c 0 A μ lam (.init [] H n) zaB w) {w':World} (hb:Go.RowKit.Below w.heap.size w w'):Rel N c 0 A μ lam (.init [] H n) zaB w':=by
 refine R.world hb.size ?_ ?_ ?_ (Marks.nil _ _ _) ⟨hb.os,hb.output⟩
 ·rintro r (h | h | ⟨k,o,hk,hl,rfl⟩)
  ·exact hb.block r (R.alt r h)
  ·obtain⟨t,ht,_⟩:=h;simp[St.init]at ht
  ·exact hb.block _ (R.lt_live hk hl)
 ·intro r hr _;exact hb.block r (Nat.lt_of_lt_of_le hr R.csize)
 ·intro r x hx;unfold World.shape? at hx⊢
  by_cases hr:r<w.heap.size
  ·rw[hb.block r hr];exact hx
  ·rw[Array.getElem?_eq_none (by omega)]at hx;cases hx
theorem ziL (R:Rel N c 0 A μ lam (.init [] H n) zaB w) {k len:Nat} {rs:List (List V)} {zs:List Int} (hk:H k=some (.rows 1 rs false)) (hz:intsOf rs=some zs) (hl:zs.length=len)
 {v:Value} (hv:RepV w A N.nm μ H v (.ms k 0 len)):
 ∃a cap,v= .slice a zs.length cap/\zs.length<=cap/\(zs=[]\/a=some ⟨μ k,0,none⟩)/\Holds (Value.int .i64) w (μ k) 0 zs.toArray/\μ k<w.heap.size/\(cap=0\/(a=some ⟨μ k,0,none⟩/\ ∃e m,w.shape? (μ k)=some (e,m)/\cap<=m)):=by
 obtain⟨i1,i2⟩:=intsOf_get hz;obtain⟨cc,e0,z,h1,h2,h3,h4,h5⟩:=R.heap k _ hk;have hzz:=h2 rfl;subst hzz;have hlt:μ k<w.heap.size:=R.lt_live hk rfl
 have hH:Holds (Value.int .i64) w (μ k) 0 zs.toArray:=by
  intro j hj;have hj':j<zs.length:=by simpa using hj
  refine⟨?_,by simp[World.frozen?,h1]⟩;have hzj:zs[j]? =some zs[j]:=zI hj';obtain⟨u,hu,hr⟩:=h5 j _ 0 _ (i2 j _ hzj) rfl
  cases hr with
  | t hr=>
    cases hr;simp only[World.cell?,h1,Nat.zero_add];simp only[Nat.mul_one,Nat.add_zero]at hu;simp[hu,hj']
 have hv1:RepC w A N.nm μ H v (.ms k 0 len):=hv
 cases hv1 with
 | ms _ _ _ cap sz rs' frz a hk' hi hc ha=>
   rw[hk]at hk';cases hk';subst hl;refine⟨a,cap,rfl,by omega,?_,hH,hlt,?_⟩
   ·rcases ha with h0 | ⟨rfl,_⟩
    ·exact .inl (List.eq_nil_of_length_eq_zero (by omega))
    ·exact .inr (by simp)
   ·rcases ha with h0 | ⟨rfl,e,m,hs,hm⟩
    ·exact .inl h0
    ·exact .inr ⟨by simp,e,m,hs,by omega⟩
 | dms _ _ _ hk' _=>rw[hk]at hk';cases hk'
end
theorem zch {w:World} {A:Nat->Prop} {nm μ:Nat->Nat} {H:Nat->Option O} {vs:Array Value} {x:V} (h:zaT w A nm μ H vs [x]): ∃v,vs= #[v]/\RepV w A nm μ H v x:=by
 obtain⟨h1,h2⟩:=h;obtain⟨v,hv,hr⟩:=h2 0 x rfl;refine⟨v,?_,hr⟩;apply Array.ext_getElem?;intro i
 cases i with
 | zero=>simpa using hv
 | succ i=>rw[Array.getElem?_eq_none (by simp at h1;omega),Array.getElem?_eq_none (by simp)]
theorem zpv {H:Nat->Option O} {k:Nat} {o:O} (h:H k=some o):upd H k (some o)=H:=by
 funext j;unfold upd;split
 ·rename_i e;rw[e,h]
 ·rfl
theorem zfG {rs:List (List V)} (h:intsOf rs=some []):rs=[]:=List.eq_nil_of_length_eq_zero (by simpa using(intsOf_get h).1)
theorem znj {P:Program} {N:Nam} {g:Nat} {ρ:Ren} (Ly:Go.Proofs.Lays.n189 P ρ) (hf:ρ.f 189=N.nm g) {rf:Func} (hr:Real P (N.nm g) rf):zjY P N g .sortI:=by
 refine⟨⟨rf,hr⟩,fun args H n r H' n' h c A μ lam w vs R ha=> ?_,fun _ _ h=>by simp[zwd]at h⟩;rw[<- hf];unfold zwb at h;split at h
 all_goals(try contradiction)
 ·cases h;obtain⟨v,rfl,hv⟩:=zch ha;cases hv.t_inv;refine(Go.Proofs.Any.slices_Sort_int_none Ly _ _ w).mono ?_;rintro e w' ⟨rfl,rfl⟩;exact⟨_,A,μ,lam,rfl,R,⟨#[],rfl,rfl,by simp⟩⟩
 ·rename_i k len _;split at h
  ·rename_i rs hk;simp only[zB]at h;obtain⟨zs,hz,h⟩:=h;split at h
   ·rename_i hl;cases h;obtain⟨v,rfl,hv⟩:=zch ha;obtain⟨a,cap,rfl,hc,hor,hH,hlt,_⟩:=ziL R hk hz hl.1 hv
    by_cases h0:zs=[]
    ·subst h0;refine(Go.Proofs.Any.slices_Sort_int_none Ly _ _ w).mono ?_;rintro e w' ⟨rfl,rfl⟩;have hrs:=zfG hz;subst hrs;refine⟨_,A,μ,lam,rfl,?_,⟨#[],rfl,rfl,by simp⟩⟩;rw[List.mergeSort_nil,show ofInts []=[]from rfl,zpv hk];exact R
    ·obtain rfl:=hor.resolve_left h0;refine(Go.Proofs.Any.slices_Sort_int Ly (μ k) 0 cap zs w hH hlt (by omega)).mono ?_;rintro e w' ⟨rfl,q,os,rfl⟩;refine⟨_,A,μ,lam,rfl,zmJ (rel_putInts R hk _ ?_ q) os,⟨#[],rfl,rfl,by simp⟩⟩;rw[List.length_mergeSort,(intsOf_get hz).1]
   ·cases h
  ·cases h
theorem zjL (zs:List Int):(Go.Lib.compact zs).length<=zs.length:=by
 unfold Go.Lib.compact Go.Lib.compactUpTo;rw[List.length_map];exact Nat.le_trans (List.length_filter_le _ _) (by simp)
theorem ziQ (H:Nat->Option O) (d:Nat): ∀l:List Int,(ofInts l).mapM (fun row=>row.mapM (toT H d))=some (l.map fun z=>[T.int .i64 z])
 | []=>rfl
 | z::l=>by
   have e:ofInts (z::l)=[.t (.int .i64 z)]::ofInts l:=rfl;have e1:toT H d (.t (.int .i64 z))=some (.int .i64 z):=by cases d<;>rfl
   rw[e,List.mapM_cons,ziQ H d l];simp only[List.mapM_cons,List.mapM_nil,e1];rfl
theorem zfF (H:Nat->Option O) (d:Nat): ∀l:List Int,(ofInts l).flatMap (fun row=>row.flatMap (reach H d))=[]
 | []=>rfl
 | z::l=>by
   have e:ofInts (z::l)=[.t (.int .i64 z)]::ofInts l:=rfl;have e1:reach H d (.t (.int .i64 z))=[]:=by cases d<;>rfl
   rw[e,List.flatMap_cons,zfF H d l];simp only[List.flatMap_cons,List.flatMap_nil,e1];rfl
theorem zj1 {H:Nat->Option O} (k:Nat) (a b:Option O):upd (upd H k a) k b=upd H k b:=by
 funext j;unfold upd;split<;>rfl
theorem zh9 {P:Program} {N:Nam} {g:Nat} {ρ:Ren} (Ly:Go.Proofs.Lays2.n20 P ρ) (hf:ρ.f 20=N.nm g) {rf:Func} (hr:Real P (N.nm g) rf):zjY P N g .compactI:=by
 refine⟨⟨rf,hr⟩,fun args H n r H' n' h c A μ lam w vs R ha=> ?_,fun _ _ h=>by simp[zwd]at h⟩;rw[<- hf];unfold zwb at h;split at h
 all_goals(try contradiction)
 ·cases h;obtain⟨v,rfl,hv⟩:=zch ha;cases hv.t_inv;refine(Go.Proofs.Any.slices_Compact_int_empty Ly _ _ w).mono ?_;rintro e w' ⟨rfl,rfl⟩;exact⟨_,A,μ,lam,rfl,R,(RepC.t (.sl0 _ _)).toV⟩
 ·rename_i k len _;split at h
  ·rename_i rs hk;simp only[zB]at h;obtain⟨zs,hz,h⟩:=h;split at h
   ·rename_i hl;cases h;obtain⟨v,rfl,hv⟩:=zch ha;obtain⟨a,cap,rfl,hc,hor,hH,hlt,hcap⟩:=ziL R hk hz hl.1 hv;have hcl:=zjL zs
    by_cases h0:zs=[]
    ·subst h0;refine(Go.Proofs.Any.slices_Compact_int_empty Ly _ _ w).mono ?_;rintro e w' ⟨rfl,rfl⟩;have hrs:=zfG hz;subst hrs;exact⟨_,_,μ,lam,rfl,R.freeze hk,(RepC.t (.sl0 _ _)).toV⟩
    ·obtain rfl:=hor.resolve_left h0;refine(Go.Proofs.Any.slices_Compact_int Ly (μ k) 0 cap zs w hH (by omega) hc).mono ?_;rintro e w' ⟨rfl,q,rfl⟩
     have hlen:(Go.Lib.compact zs++List.replicate (zs.length-(Go.Lib.compact zs).length) 0).length=rs.length:=by
      rw[List.length_append,List.length_replicate,(intsOf_get hz).1];omega
     have R1:=rel_putInts R hk _ hlen q;have R2:Rel N c 0 (fun r=>A r\/r=μ k) μ lam (.init [] (upd (upd H k (some (.rows 1 (ofInts (Go.Lib.compact zs++List.replicate (zs.length-(Go.Lib.compact zs).length) 0)) false))) k (some (.rows 1 (ofInts (Go.Lib.compact zs++List.replicate (zs.length-(Go.Lib.compact zs).length) 0)) true))) n) zaB _:=R1.freeze (k:=k) (upd_same _ _ _);rw[zj1]at R2;refine⟨_,_,μ,lam,rfl,R2,?_⟩
     have hcap0:cap≠0:=by
      intro hcc;exact h0 (List.eq_nil_of_length_eq_zero (by omega))
     obtain⟨_,e,m,hs,hm⟩:=hcap.resolve_left hcap0
     have hrep:RepC (putRow (Value.int .i64) (Sort.ahead w q) (μ k) 0 (Go.Lib.compact zs++List.replicate (zs.length-(Go.Lib.compact zs).length) 0).toArray) A N.nm μ (upd H k (some (.rows 1 (ofInts (Go.Lib.compact zs++List.replicate (zs.length-(Go.Lib.compact zs).length) 0)) false))) (.slice (some ⟨μ k,0,none⟩) (Go.Lib.compact zs).length cap) (.ms k 0 (Go.Lib.compact zs).length):=by
      refine .ms k 0 _ cap 1 _ false _ (upd_same _ _ _) ?_ (by have e1:=(intsOf_get hz).1;simp only[ofInts,List.length_map,hlen];omega) (.inr ⟨by simp,e,m,?_,by omega⟩)
      ·simp only[ofInts,List.length_map,hlen,(intsOf_get hz).1];omega
      ·exact zd1 w q (μ k) _ _ _ hs
     have hrd:rd (ofInts (Go.Lib.compact zs++List.replicate (zs.length-(Go.Lib.compact zs).length) 0)) 0 (Go.Lib.compact zs).length=some (ofInts (Go.Lib.compact zs)):=by
      unfold rd;rw[if_pos (by simp[ofInts]),List.drop_zero];simp[ofInts,List.map_append]
     have hT:toT (upd H k (some (.rows 1 (ofInts (Go.Lib.compact zs++List.replicate (zs.length-(Go.Lib.compact zs).length) 0)) false))) 1000 (.ms k 0 (Go.Lib.compact zs).length)=some (.sl ((Go.Lib.compact zs).map fun z=>[.int .i64 z])):=by
      simp only[toT,upd_same,hrd,zC,zD,ziQ]
     have hR:reach (upd H k (some (.rows 1 (ofInts (Go.Lib.compact zs++List.replicate (zs.length-(Go.Lib.compact zs).length) 0)) false))) 1000 (.ms k 0 (Go.Lib.compact zs).length)=[k]:=by
      simp only[reach,upd_same,zfF]
     have hrt:=toT_rep R1.heap 1000 _ _ _ hT hrep;refine(RepC.t (hrt.mono (fun _ _=>rfl) ?_)).toV;rintro r (h | ⟨k',hk',_,rfl⟩)
     ·exact .inl h
     ·have h1:k'∈ [k]:=by rw[<- hR];exact hk'
      rw[List.mem_singleton]at h1;subst h1;exact .inr rfl
   ·cases h
  ·cases h
theorem Rel.more {N:Nam} {c:Ctx} {A:Nat->Prop} {μ lam:Nat->Nat} {w:World} {H:Nat->Option O} {n:Nat} (R:Rel N c 0 A μ lam (.init [] H n) zaB w) {m:Nat} (hm:n<=m):Rel N c 0 A μ lam (.init [] H m) zaB w:=
 { R with fresh:=fun k hk=>R.fresh k (Nat.le_trans hm hk) }
theorem zhZ {es:List (List T)} {zs:List Int} (h:intsOf (es.map (·.map V.t))=some zs):es.length=zs.length/\ ∀(i:Nat) (z:Int),zs[i]? =some z->es[i]? =some [.int .i64 z]:=by
 obtain⟨h1,h2⟩:=intsOf_get h;refine⟨by simpa using h1,fun i z hi=> ?_⟩;have:=h2 i z hi;rw[zJ,zE]at this;obtain⟨e,he,h3⟩:=this
 match e,h3 with
 | [],h3=>simp at h3
 | [x],h3=>simp only[List.map_cons,List.map_nil,List.cons.injEq,V.t.injEq,and_true]at h3;rw[he,h3]
 | _::_::_,h3=>simp at h3
theorem zlC {P:Program} {N:Nam} {g:Nat} {ρ:Ren} (Ly:Go.Proofs.Lays2.n15 P ρ) (hf:ρ.f 15=N.nm g) {rf:Func} (hr:Real P (N.nm g) rf):zjY P N g .cloneI:=by
 refine⟨⟨rf,hr⟩,fun args H n r H' n' h c A μ lam w vs R ha=> ?_,fun _ _ h=>by simp[zwd]at h⟩;rw[<- hf]
 have empty: ∀(a:Option Addr) (cap:Nat),Calls P (ρ.f 15) #[.slice a 0 cap] w fun e w'=> ∃v A' μ' lam',e= .returned v/\Rel N c 0 A' μ' lam' (.init [] H n) zaB w'/\RepV w' A' N.nm μ' H v (.t (.sl [])):=by
  intro a cap
  cases a with
  | none=>
    refine(Go.Proofs.Any.slices_Clone_int_nil Ly _ _ w).mono ?_;rintro e w' ⟨rfl,rfl⟩
    exact⟨_,A,μ,lam,rfl,R,(RepC.t (.sl0 _ _)).toV⟩
  | some a=>
    refine(Go.Proofs.Any.slices_Clone_int_zero Ly a cap w).mono ?_;rintro e w' ⟨v',rfl,ho,_,hb⟩;have R1:Rel N c 0 A μ lam (.init [] H n) zaB w':=rel_below R hb;refine⟨_,A,μ,lam,rfl,R1,?_⟩;rcases ho.2 with⟨rfl,_⟩ | ⟨g,cp,cur,rfl,_⟩
    ·exact(RepC.t (.sl0 _ _)).toV
    ·exact(RepC.t (.sl0 _ _)).toV
 unfold zwb at h;split at h
 all_goals(try contradiction)
 ·cases h;obtain⟨v,rfl,hv⟩:=zch ha;cases hv.t_inv;exact empty _ _
 ·cases h;obtain⟨v,rfl,hv⟩:=zch ha
  cases hv.t_inv with
  | sl0 a cap=>exact empty _ _
  | sl r off cap sz es vf h0=>exact absurd h0 (by simp)
 ·rename_i es hne;simp only[zB]at h;obtain⟨zs,hz,h⟩:=h;split at h
  ·rename_i hl;cases h;obtain⟨v,rfl,hv⟩:=zch ha;obtain⟨i1,i2⟩:=zhZ hz
   cases hv.t_inv with
   | sl0 a cap=>simp_all
   | sl r0 off cap sz es vf h0 hc hA hs hvv hrr=>
     have hcell: ∀j,j<zs.length->w.cell? ⟨r0,off+j,none⟩=some (.int .i64 (zs.getD j 0)):=by
      intro j hj;have hzj:zs[j]? =some zs[j]:=zI hj;have hej:=i2 j _ hzj;have h1:=hs j _ hej;simp at h1;subst h1;have h2:=hvv j _ 0 _ hej rfl;have h3:=hrr j _ 0 _ hej rfl;cases h3':vf j 0<;>rw[h3']at h3<;>cases h3
      rw[h3']at h2;simpa[hj]using h2
     rw[i1];refine(Go.Proofs.Any.slices_Clone_int Ly r0 off zs.length cap zs w (Nat.le_refl _) (by omega) hcell).mono ?_;rintro e w' ⟨v',rfl,ho,_,hb⟩;have R1:Rel N c 0 A μ lam (.init [] H (n+1)) zaB w':=(rel_below R hb).more (Nat.le_succ _);rcases ho.2 with⟨_,h00⟩ | ⟨g0,cp,cur,rfl,hg,hcur,hcp,_,hsz,htk⟩
     ·omega
     ·have hsz1:cur.size=cp:=by simpa using hsz
      rw[List.take_length,Nat.mul_one]at htk
      have R2:=R1.adoptH (k:=n) (r:=g0) (o:=.rows 1 (ofInts zs) false) (R.fresh n (Nat.le_refl _)) (Nat.lt_succ_self _) ⟨fun h=>Nat.lt_irrefl _ (Nat.lt_of_lt_of_le (R.alt _ h) hg),fun t ht=>by simp[St.init]at ht,fun k o hk hlv e=>by
       have:=R.lt_live hk hlv
       omega,.inr (Nat.le_trans R.csize hg)⟩ ⟨cur,_,(0,0),hcur,fun _=>rfl,by simp[ofInts];omega,fun i row hi=>by
       simp only[ofInts,zJ,zE]at hi;obtain⟨y,_,rfl⟩:=hi;rfl,fun i row j x hi hj=>by
       simp only[ofInts,zJ,zE]at hi;obtain⟨y,hy,rfl⟩:=hi
       have hj0:j=0:=by
        have:=(zH.1 hj).1;simp at this;exact this
       subst hj0;simp only[List.getElem?_cons_zero,zA]at hj;subst hj;refine⟨.int .i64 y,?_,.t (.int _ _)⟩;have hlt:i<zs.length:=(zH.1 hy).1;have h5:(cur.toList.take zs.length)[i]? =some (.int .i64 y):=by rw[htk,zJ,hy];rfl
       rw[List.getElem?_take,if_pos hlt,Array.getElem?_toList]at h5
       simpa using h5⟩ (by simp)
      refine⟨_,A,_,lam,rfl,R2,?_⟩;refine RepC.toV (.ms n 0 zs.length cp 1 (ofInts zs) false _ (upd_same _ _ _) (by simp[ofInts]) (by simp[ofInts];omega) (.inr ⟨?_,ρ.t 3,cur.size,?_,by omega⟩))
      ·rw[upd_same]
      ·rw[upd_same];unfold World.shape?;rw[hcur]
  ·cases h
end Rg
end
section
namespace Rg
open Go Go.Proofs Go.Shelf Go.RowKit Go.Lib
variable {P:Program} {ρ:Ren}
set_option maxHeartbeats 2000000 in
set_option maxRecDepth 100000 in
theorem clone_any (L:SlLaysE0.n41 P ρ) {i0:TypeInfo} {z:Value} {size bytes:Nat} (hi:P.info? (ρ.t 23)=some i0) (hz0:i0.zero=some z) (hz1:i0.size=size) (hz2:i0.bytes=bytes) (hzs:z.cells.size=size) (hsz:0<size)
 (z23: ∀w,(Go.sizeOf (ρ.t 23)).run P w= .ok size w) (ad:Addr) (n c:Nat) (news:List Value) (w:World) (hl:news.length=n*size) (hn:n<=maxLen) (hbig:n*bytes<=140737488355328)
 (hc: ∀j u,news[j]? =some u->w.cell? (ad.add j)=some u) (h1: ∀u∈news,u.oneCell'=true):
 Calls P (ρ.f 41) #[.slice (some ad) n c] w fun e w'=> ∃v',e= .returned v'/\w'.ownsRow w.heap.size (ρ.t 23) size v' n news/\Below w.heap.size w w':=by
 have mixed:=L.mixed;have t4:=L.t4;have a4:=L.a4;have z4:=L.z4;have v4:=L.v4;have t22:=L.t22;have a22:=L.a22;have z22:=L.z22;have v22:=L.v22;have q22: ∀(w:World) (a:Option Addr) (n c n' c':Nat),(binOp .eql (ρ.t 22) (.slice a n c) (.slice none n' c')).run P w= .ok (.bool a.isNone) w:=fun w a n c n' c'=>Lib.run_eql_slice_nil w _ _ a n c n' c' L.t22
 have u22: ∀w,Sem.run P (underlying (ρ.t 22)) w= .ok (TypeDesc.slice (ρ.t 23)) w:=run_underlying t22;have A:Aside (∀j u,news[j]? =some u->w.cell? (ad.add j)=some u):=hc;clear hc;obtain⟨_,_,FG⟩:=L.f41
 go_enter FG,SlBodyN.n41_ntmps ρ
 go_wp2_with (at_builtin;refine wpList_append_own _ rfl _ _ (ρ.t 22) rfl w.heap.size (ρ.t 23) i0 z size bytes t22 hi hz0 hz1 hz2 hzs hsz _ _ _ rfl (World.ownsRow_made w #[] 0 (Nat.le_refl _) (Nat.zero_le _) (by simp)) ad n c news rfl ?qc1 ?qc2 ?qc3 ?qc4 ?qc5 ?qc6 ?_)
 case qc1=>exact hl
 case qc2=>exact fun j u hj=>Lib.cell?_alloc_some _ (A.out j u hj)
 case qc3=>exact h1
 case qc4=>rw[Nat.zero_add];exact hn
 case qc5=>rw[Nat.zero_add];exact hbig
 case qc6=>simp
 intro v' w1 hown hgrow hnil
 go_wp2
 go_ret
 refine⟨v',rfl,by simpa using hown,?_⟩;exact((Below.refl _ w).alloc (Nat.le_refl _) _).grown hgrow (by simp) (by intro k hk;simp[Value.ownBlock]at hk;omega)
theorem zfN {N:Nam} {g:Nat} (L:SlLaysE0.n41 P ρ) {i0:TypeInfo} {z:Value} {size bytes:Nat} (hi:P.info? (ρ.t 23)=some i0) (hz0:i0.zero=some z) (hz1:i0.size=size) (hz2:i0.bytes=bytes) (hzs:z.cells.size=size) (hsz:0<size)
 (z23: ∀w,(Go.sizeOf (ρ.t 23)).run P w= .ok size w) (hby:bytes<=32768) (hf:ρ.f 41=N.nm g) {rf:Func} (hr:Real P (N.nm g) rf):zjY P N g (.cloneT size):=by
 refine⟨⟨rf,hr⟩,fun args H n r H' n' h=>by simp[zwb]at h,fun args r h=> ?_⟩;intro A w vs hA hgl ha;rw[<- hf]
 have empty: ∀(a:Option Addr) (cap:Nat),Calls P (ρ.f 41) #[.slice a 0 cap] w fun e w'=> ∃v,e= .returned v/\(w'.os=w.os/\w'.output=w.output)/\w.heap.size<=w'.heap.size/\(∀q,q<w.heap.size->w'.heap[q]? =w.heap[q]?)/\
  RepV w' (fun q=>A q\/(w.heap.size<=q/\q<w'.heap.size)) N.nm (fun _=>0) (fun _=>none) v (.t (.sl [])):=by
  intro a cap
  cases a with
  | none=>
    refine(AnyE.slices_Clone_nil L 0 cap w).mono ?_;rintro e w' ⟨rfl,rfl⟩
    exact⟨_,rfl,⟨rfl,rfl⟩,Nat.le_refl _,fun _ _=>rfl,(RepC.t (.sl0 _ _)).toV⟩
  | some a=>
    refine(clone_any L hi hz0 hz1 hz2 hzs hsz z23 a 0 cap [] w (by simp) (by omega) (by omega) (fun j u h=>by simp at h) (fun u h=>by simp at h)).mono ?_;rintro e w' ⟨v',rfl,ho,hb⟩;refine⟨_,rfl,⟨hb.os,hb.output⟩,hb.size,hb.block,?_⟩;rcases ho.2 with⟨rfl,_⟩ | ⟨g,cp,cur,rfl,_⟩
    ·exact(RepC.t (.sl0 _ _)).toV
    ·exact(RepC.t (.sl0 _ _)).toV
 unfold zwd at h;split at h
 all_goals(try contradiction)
 ·cases h;obtain⟨v,rfl,hv⟩:=zch ha;cases hv.t_inv;exact empty _ _
 ·rename_i e0 sz0 es heq;cases heq;split at h
  ·rename_i hle;cases h;obtain⟨v,rfl,hv⟩:=zch ha
   cases hv.t_inv with
   | sl0 a cap=>exact empty _ _
   | sl r0 off cap sz es vf h0 hc hA0 hs hvv hrr=>
     have hrow: ∀(i:Nat) (e:List T),es[i]? =some e->e.length=size:=fun i e he=>by
      have:=List.all_eq_true.1 hle.2 e (List.mem_of_getElem? he);simpa using this
     have hsz2:sz=size:=by
      have h2:es[0]? =some es[0]:=zI h0;rw[<- hs 0 _ h2,hrow 0 _ h2]
     subst hsz2
     have hget: ∀q,q<es.length*sz-> ∃e x,es[q/ sz]? =some e/\e[q % sz]? =some x:=by
      intro q hq;have h1:q/ sz<es.length:=Nat.div_lt_of_lt_mul (by rw[Nat.mul_comm];exact hq);have h2:es[q/ sz]? =some es[q/ sz]:=zI h1;have h3:q % sz<(es[q/ sz]).length:=by rw[hrow _ _ h2];exact Nat.mod_lt _ hsz
      exact⟨_,_,h2,zI h3⟩
     have hnews: ∀(j:Nat) (u:Value),((List.range (es.length*sz)).map fun q=>vf (q/ sz) (q % sz))[j]? =some u->j<es.length*sz/\u=vf (j/ sz) (j % sz):=by
      intro j u hj;rw[zJ,zE]at hj;obtain⟨q,hq,rfl⟩:=hj;have hlt:=(zH.1 hq).1;rw[List.length_range]at hlt;rw[List.getElem?_range hlt]at hq;cases hq;exact⟨hlt,rfl⟩
     have hdm: ∀j,j/ sz*sz+j % sz=j:=fun j=>by rw[Nat.mul_comm];exact Nat.div_add_mod j sz
     have hle1:=hle.1;refine(clone_any L hi hz0 hz1 hz2 hzs hsz z23 ⟨r0,off,none⟩ es.length cap ((List.range (es.length*sz)).map fun q=>vf (q/ sz) (q % sz)) w (by simp) (by unfold maxLen;omega) ?_ ?_ ?_).mono ?_
     ·exact Nat.le_trans (Nat.mul_le_mul (Nat.le_of_lt hle1) hby) (by decide)
     ·intro j u hj;obtain⟨hlt,rfl⟩:=hnews j u hj;obtain⟨e,x,he,hx⟩:=hget j hlt;have:=hvv _ _ _ _ he hx;rw[Nat.add_assoc,hdm]at this;rw[za1];exact this
     ·intro u hu;obtain⟨j,hj⟩:=List.getElem?_of_mem hu;obtain⟨hlt,rfl⟩:=hnews j u hj;obtain⟨e,x,he,hx⟩:=hget j hlt;exact(hrr _ _ _ _ he hx).one
     ·rintro e w' ⟨v',rfl,ho,hb⟩;refine⟨_,rfl,⟨hb.os,hb.output⟩,hb.size,hb.block,?_⟩;rcases ho.2 with⟨rfl,h5⟩ | ⟨g,cp,cur,rfl,hg,hcur,hcp,_,hcs,htk⟩
      ·omega
      ·have hgl':g<w'.heap.size:=(Array.getElem?_eq_some_iff.1 hcur).1;refine(RepC.t (RepT.sl g 0 cp sz es vf h0 hcp (.inr ⟨hg,hgl'⟩) hs (fun i e j x he hx=> ?_) (fun i e j x he hx=> ?_))).toV
       ·have hil:=(zH.1 he).1;have hjl:=(zH.1 hx).1;rw[hs i e he]at hjl;have hq:i*sz+j<es.length*sz:=Nat.lt_of_lt_of_le (show i*sz+j<(i+1)*sz by rw[Nat.add_mul];omega) (Nat.mul_le_mul_right _ hil)
        have h6:((List.range (es.length*sz)).map fun q=>vf (q/ sz) (q % sz))[i*sz+j]? =some (vf i j):=by
         rw[zJ,List.getElem?_range hq,Option.map_some]
         congr 2
         ·rw[Nat.mul_comm,Nat.mul_add_div hsz,Nat.div_eq_of_lt hjl,Nat.add_zero]
         ·rw[Nat.mul_comm,Nat.mul_add_mod,Nat.mod_eq_of_lt hjl]
        rw[<- htk,List.getElem?_take]at h6;rw[if_pos hq,Array.getElem?_toList]at h6;simp only[World.cell?,hcur,Nat.zero_add,h6];rfl
       ·exact(hrr _ _ _ _ he hx).mono (fun r hr=>hb.block r (hA r hr)) (fun r hr=> .inl hr)
  ·cases h
end Rg
end
section
namespace Go.Proofs
open Go.Shelf
def Tryz.lays189_ren:Go.Shelf.Ren:=⟨fun | 189=>70 | 125=>118 | 257=>117 | 128=>169 | 129=>170 | 294=>160 | 295=>161 | 296=>162 | 297=>163 | 298=>164 | 299=>165 | 216=>166 | 300=>167 | 301=>168 | 328=>195 | 329=>196 | 330=>197 | 331=>198 | 332=>199 | 215=>200 | 343=>221 | n=>n,fun | 28=>44 | 3=>3 | 46=>183 | 0=>0 | 51=>222 | 53=>133 | 4=>4 | 183=>216 | 182=>215 | 131=>79 | 5=>5 | 9=>9 | 218=>243 | 222=>247 | 228=>259 | 229=>260 | n=>n,fun | n=>n⟩
theorem Tryz.lays189:Go.Proofs.Lays.n189 Tryz.prog Tryz.lays189_ren:={
 mixed:=by kernel_rfl
 f125:=Tryz.func118.trans (congrArg some (by kernel_rfl))
 f128:=Tryz.func169.trans (congrArg some (by kernel_rfl))
 f129:=Tryz.func170.trans (congrArg some (by kernel_rfl))
 f189:=Tryz.func70.trans (congrArg some (by kernel_rfl))
 f215:=Tryz.func200.trans (congrArg some (by kernel_rfl))
 f216:=Tryz.func166.trans (congrArg some (by kernel_rfl))
 f257:=Tryz.func117.trans (congrArg some (by kernel_rfl))
 f294:=Tryz.func160.trans (congrArg some (by kernel_rfl))
 f295:=Tryz.func161.trans (congrArg some (by kernel_rfl))
 f296:=Tryz.func162.trans (congrArg some (by kernel_rfl))
 f297:=Tryz.func163.trans (congrArg some (by kernel_rfl))
 f298:=Tryz.func164.trans (congrArg some (by kernel_rfl))
 f299:=Tryz.func165.trans (congrArg some (by kernel_rfl))
 f300:=Tryz.func167.trans (congrArg some (by kernel_rfl))
 f301:=Tryz.func168.trans (congrArg some (by kernel_rfl))
 f328:=Tryz.func195.trans (congrArg some (by kernel_rfl))
 f329:=Tryz.func196.trans (congrArg some (by kernel_rfl))
 f330:=Tryz.func197.trans (congrArg some (by kernel_rfl))
 f331:=Tryz.func198.trans (congrArg some (by kernel_rfl))
 f332:=Tryz.func199.trans (congrArg some (by kernel_rfl))
 f343:=Tryz.func221.trans (congrArg some (by kernel_rfl))
 t0:=Tryz.underlying0
 a0:=Tryz.isAgg0
 z0:=Tryz.sizeOf0
 v0:=Tryz.zeroValue0
 t3:=Tryz.underlying3
 a3:=Tryz.isAgg3
 z3:=Tryz.sizeOf3
 v3:=Tryz.zeroValue3
 t4:=Tryz.underlying4
 a4:=Tryz.isAgg4
 z4:=Tryz.sizeOf4
 v4:=Tryz.zeroValue4
 t5:=Tryz.underlying5
 a5:=Tryz.isAgg5
 z5:=Tryz.sizeOf5
 v5:=Tryz.zeroValue5
 t9:=Tryz.underlying9
 a9:=Tryz.isAgg9
 z9:=Tryz.sizeOf9
 v9:=Tryz.zeroValue9
 t28:=Tryz.underlying44
 a28:=Tryz.isAgg44
 z28:=Tryz.sizeOf44
 v28:=Tryz.zeroValue44
 t46:=Tryz.underlying183
 a46:=Tryz.isAgg183
 z46:=Tryz.sizeOf183
 v46:=Tryz.zeroValue183
 t51:=Tryz.underlying222
 a51:=Tryz.isAgg222
 z51:=Tryz.sizeOf222
 v51:=Tryz.zeroValue222
 t53:=Tryz.underlying133
 a53:=Tryz.isAgg133
 z53:=Tryz.sizeOf133
 v53:=Tryz.zeroValue133
 t131:=Tryz.underlying79
 a131:=Tryz.isAgg79
 z131:=Tryz.sizeOf79
 v131:=Tryz.zeroValue79
 t182:=Tryz.underlying215
 a182:=Tryz.isAgg215
 z182:=Tryz.sizeOf215
 v182:=Tryz.zeroValue215
 t183:=Tryz.underlying216
 a183:=Tryz.isAgg216
 z183:=Tryz.sizeOf216
 v183:=Tryz.zeroValue216
 t218:=Tryz.underlying243
 a218:=Tryz.isAgg243
 z218:=Tryz.sizeOf243
 v218:=Tryz.zeroValue243
 t222:=Tryz.underlying247
 a222:=Tryz.isAgg247
 z222:=Tryz.sizeOf247
 v222:=Tryz.zeroValue247
 t228:=Tryz.underlying259
 a228:=Tryz.isAgg259
 z228:=Tryz.sizeOf259
 v228:=Tryz.zeroValue259
 t229:=Tryz.underlying260
 a229:=Tryz.isAgg260
 z229:=Tryz.sizeOf260
 v229:=Tryz.zeroValue260 }
def Tryz.lays2n20_ren:Go.Shelf.Ren:=⟨fun | 20=>71 | n=>n,fun | 22=>44 | 3=>3 | 4=>4 | 0=>0 | n=>n,fun | n=>n⟩
theorem Tryz.lays2n20:Go.Proofs.Lays2.n20 Tryz.prog Tryz.lays2n20_ren:={
 mixed:=by kernel_rfl
 f20:=Tryz.func71.trans (congrArg some (by kernel_rfl))
 t0:=Tryz.underlying0
 a0:=Tryz.isAgg0
 z0:=Tryz.sizeOf0
 v0:=Tryz.zeroValue0
 t3:=Tryz.underlying3
 a3:=Tryz.isAgg3
 z3:=Tryz.sizeOf3
 v3:=Tryz.zeroValue3
 t4:=Tryz.underlying4
 a4:=Tryz.isAgg4
 z4:=Tryz.sizeOf4
 v4:=Tryz.zeroValue4
 t22:=Tryz.underlying44
 a22:=Tryz.isAgg44
 z22:=Tryz.sizeOf44
 v22:=Tryz.zeroValue44
 i3:=by kernel_rfl }
def Tryz.lays2n15_ren:Go.Shelf.Ren:=⟨fun | 15=>74 | n=>n,fun | 22=>44 | 3=>3 | 4=>4 | n=>n,fun | n=>n⟩
theorem Tryz.lays2n15:Go.Proofs.Lays2.n15 Tryz.prog Tryz.lays2n15_ren:={
 mixed:=by kernel_rfl
 f15:=Tryz.func74.trans (congrArg some (by kernel_rfl))
 t3:=Tryz.underlying3
 a3:=Tryz.isAgg3
 z3:=Tryz.sizeOf3
 v3:=Tryz.zeroValue3
 t4:=Tryz.underlying4
 a4:=Tryz.isAgg4
 z4:=Tryz.sizeOf4
 v4:=Tryz.zeroValue4
 t22:=Tryz.underlying44
 a22:=Tryz.isAgg44
 z22:=Tryz.sizeOf44
 v22:=Tryz.zeroValue44
 i3:=by kernel_rfl }
def Tryz.lays41_35_ren:Go.Shelf.Ren:=⟨fun | 41=>35 | n=>n,fun | 22=>30 | 23=>67 | 4=>4 | n=>n,fun | n=>n⟩
theorem Tryz.lays41_35:Go.Proofs.SlLaysE0.n41 Tryz.prog Tryz.lays41_35_ren:={
 mixed:=by kernel_rfl
 f41:=⟨Tryz.f35.name,by decide,Tryz.func35.trans (congrArg some (by kernel_rfl))⟩
 t4:=Tryz.underlying4
 a4:=Tryz.isAgg4
 z4:=Tryz.sizeOf4
 v4:=Tryz.zeroValue4
 t22:=Tryz.underlying30
 a22:=Tryz.isAgg30
 z22:=Tryz.sizeOf30
 v22:=Tryz.zeroValue30 }
def Tryz.lays41_72_ren:Go.Shelf.Ren:=⟨fun | 41=>72 | n=>n,fun | 22=>22 | 23=>90 | 4=>4 | n=>n,fun | n=>n⟩
theorem Tryz.lays41_72:Go.Proofs.SlLaysE0.n41 Tryz.prog Tryz.lays41_72_ren:={
 mixed:=by kernel_rfl
 f41:=⟨Tryz.f72.name,by decide,Tryz.func72.trans (congrArg some (by kernel_rfl))⟩
 t4:=Tryz.underlying4
 a4:=Tryz.isAgg4
 z4:=Tryz.sizeOf4
 v4:=Tryz.zeroValue4
 t22:=Tryz.underlying22
 a22:=Tryz.isAgg22
 z22:=Tryz.sizeOf22
 v22:=Tryz.zeroValue22 }
end Go.Proofs
end
section
set_option maxRecDepth 100000
namespace Rg
open Go Go.Proofs Go.Proofs.YtcmeofagpechdaaGreatDoor
namespace Seat
def tbl:List Nat:=[2,1000001,1000002,1000003,1000004,1000005,1000006,1000007,1000008,42,1000010,55,20,1000013,1000014,1000015,1000016,56,23,45,51,97,1000022,89,140,21,1000026,100,125,1000029,1000030,124,53,134,101,1000035,88,102,44,19,1000040,1000041,24,48,49,50,95,132,142,178,46,144,1000052,1000053,1000054,1000055,145,174,1000058,1000059,173,63,64,1000063,65,43,52,99,180,96,184,185,186,187,70,71,193,201,202,110,111,112,113,114,90,91,92,93,94,209,143,210,211,117,118,147,98,148,149,150,151,152,153,154,155,156,157,158,159,133,135,136,137,138,139,141,222,181,182,183,160,161,162,163,164,165,166,167,168,169,170,188,189,190,191,192,194,177,179,195,196,197,198,199,200,212,213,214,215,216,217,218,219,220,203,204,205,206,207,208,221,223,224,225,226,227,228,249,1000168,1000169,1000170,1000171,1000172,1000173,1000174,1000175,1000176,1000177,1000178,26,27,1000181,1000182,1000183,1000184,1000185,1000186,57,58,59,60,61,62,1000193,1000194,103,104,1000197,74,105,106,107,108,109,1000204,146,122,172,1000208,1000209,1000210,1000211,1000212,1000213,1000214,1000215,1000216,1000217,1000218,1000219,1000220,1000221,1000222,1000223,47,1000225,1000226,1000227,126,1000229,1000230,1000231,1000232,1000233,1000234,1000235,1000236,1000237,1000238,1000239,1000240,1000241,1000242,1000243,1000244,1000245,1000246,1000247,1000248,1000249,1000250,1000251,1000252,175,1000254,1000255,1000256,1000257,1000258,1000259,1000260,1000261,1000262,1000263,1000264,1000265,1000266,1000267,1000268,1000269,1000270,1000271,1000272,1000273,1000274,1000275,1000276,1000277,1000278,1000279,1000280,1000281,1000282,1000283,1000284,1000285,1000286,1000287,1000288,12,1000290,1000291,1000292,1000293,1000294,1000295,1000296,1000297,1000298,36,37,38,1000302,1000303,1000304,1000305,1000306,76,1000308,77,78,79,80,81,82,83,84,1000317,127,128,129,130,131,1000323,1000324,176,1000326,1000327,1000328,1000329,1000330,1000331,1000332,1000333,1000334,1000335,1000336,1000337,1000338,1000339,1000340,1000341,1000342,1000343,1000344,1000345,1000346,1000347,1000348,1000349,1000350,1000351,1000352,1000353,1000354,1000355,1000356,1000357,1000358,1000359,1000360,1000361,1000362,1000363,1000364,1000365,1000366,1000367,1000368,1000369,1000370,1000371,1000372,1000373,1000374,1000375,1000376,1000377,1000378,1000379,1000380,1000381,1000382,1000383,1000384,1000385,1000386,1000387,1000388,1000389,1000390,1000391,1000392,1000393,1000394,3,4,5,6,7,8,9,10,11,13,14,15,16,17,18,22,25,28,29,30,31,32,33,34,35,39,40,41,54,66,67,68,69,72,73,75,85,86,87,115,116,119,120,121,123,171]
def I:Inv:=⟨fun f=>tbl.findIdx? (· ==f),fun g=>if g=0 then some 0 else none,none⟩
def N:Nam:=⟨fun k=>tbl.getD k 0,fun k=>[0].getD k 0,G,CR Tryz.prog I,0,0⟩
def zap (s:List Nat):Raws:=⟨[52,53,54,57,60,70,74,75,76,77,83,93,97,120,121,122,123,124,125,127,128,136,139,141,142,143,158,160,199,200,202,203,236,241,244,245,246,258,260,261,295,300,301,302,310,315,317,322,323,324,326,425,426],s,[32,78,198]⟩
def Ent (q:Nat×F):Prop:=(∃rf rw L raw,Tryz.prog.funcs[N.nm q.1]? =some rf/\zig Tryz.prog I rw L raw rf=some q.2)\/ ∃e,q.2.body= .ext e/\zjY Tryz.prog N q.1 e
theorem e9:Ent (9,f9):=.inl ⟨Tryz.f42,zap [],[5,1],false,Tryz.func42,by kernel_rfl⟩
theorem e23:Ent (23,f23):=.inl ⟨Tryz.f89,zap [],[2],false,Tryz.func89,by kernel_rfl⟩
theorem e24:Ent (24,f24):=.inl ⟨Tryz.f140,zap [],[3],false,Tryz.func140,by kernel_rfl⟩
theorem e28:Ent (28,f28):=.inl ⟨Tryz.f125,zap [],[5,1],false,Tryz.func125,by kernel_rfl⟩
theorem e31:Ent (31,f31):=.inl ⟨Tryz.f124,zap [],[6,1],false,Tryz.func124,by kernel_rfl⟩
theorem e33:Ent (33,f33):=.inl ⟨Tryz.f134,zap [],[],false,Tryz.func134,by kernel_rfl⟩
theorem e36:Ent (36,f36):=.inl ⟨Tryz.f88,zap [],[1],false,Tryz.func88,by kernel_rfl⟩
theorem e39:Ent (39,f39):=.inl ⟨Tryz.f19,zap [],[1],false,Tryz.func19,by kernel_rfl⟩
theorem e47:Ent (47,f47):=.inl ⟨Tryz.f132,zap [],[2],false,Tryz.func132,by kernel_rfl⟩
theorem e48:Ent (48,f48):=.inl ⟨Tryz.f142,zap [],[1],false,Tryz.func142,by kernel_rfl⟩
theorem e49:Ent (49,f49):=.inl ⟨Tryz.f178,zap [],[3],false,Tryz.func178,by kernel_rfl⟩
theorem e51:Ent (51,f51):=.inl ⟨Tryz.f144,zap [7],[],false,Tryz.func144,by kernel_rfl⟩
theorem e57:Ent (57,f57):=.inl ⟨Tryz.f174,zap [],[],true,Tryz.func174,by kernel_rfl⟩
theorem e60:Ent (60,f60):=.inl ⟨Tryz.f173,zap [],[],true,Tryz.func173,by kernel_rfl⟩
theorem e61:Ent (61,f61):=.inl ⟨Tryz.f63,zap [],[4],false,Tryz.func63,by kernel_rfl⟩
theorem e62:Ent (62,f62):=.inl ⟨Tryz.f64,zap [],[4],false,Tryz.func64,by kernel_rfl⟩
theorem e64:Ent (64,f64):=.inl ⟨Tryz.f65,zap [],[13,5,1],false,Tryz.func65,by kernel_rfl⟩
theorem e65:Ent (65,f65):=.inl ⟨Tryz.f43,zap [],[1],false,Tryz.func43,by kernel_rfl⟩
theorem e68:Ent (68,f68):=.inl ⟨Tryz.f180,zap [],[2],false,Tryz.func180,by kernel_rfl⟩
theorem e70:Ent (70,f70):=.inl ⟨Tryz.f184,zap [38],[],true,Tryz.func184,by kernel_rfl⟩
theorem e71:Ent (71,f71):=.inl ⟨Tryz.f185,zap [],[],false,Tryz.func185,by kernel_rfl⟩
theorem e74:Ent (74,f74):=.inr ⟨.sortI,rfl,znj Tryz.lays189 (by kernel_rfl) (rf:=Tryz.f70) ⟨Tryz.func70,by kernel_rfl,by kernel_rfl⟩⟩
theorem e75:Ent (75,f75):=.inr ⟨.compactI,rfl,zh9 Tryz.lays2n20 (by kernel_rfl) (rf:=Tryz.f71) ⟨Tryz.func71,by kernel_rfl,by kernel_rfl⟩⟩
theorem e76:Ent (76,f76):=.inl ⟨Tryz.f193,zap [13],[],true,Tryz.func193,by kernel_rfl⟩
theorem e77:Ent (77,f77):=.inl ⟨Tryz.f201,zap [],[],true,Tryz.func201,by kernel_rfl⟩
theorem e78:Ent (78,f78):=.inl ⟨Tryz.f202,zap [],[1],true,Tryz.func202,by kernel_rfl⟩
theorem e79:Ent (79,f79):=.inl ⟨Tryz.f110,zap [],[6,4,1],false,Tryz.func110,by kernel_rfl⟩
theorem e80:Ent (80,f80):=.inl ⟨Tryz.f111,zap [],[5,1],false,Tryz.func111,by kernel_rfl⟩
theorem e81:Ent (81,f81):=.inl ⟨Tryz.f112,zap [],[5,1],false,Tryz.func112,by kernel_rfl⟩
theorem e82:Ent (82,f82):=.inl ⟨Tryz.f113,zap [],[6,5,1],false,Tryz.func113,by kernel_rfl⟩
theorem e83:Ent (83,f83):=.inl ⟨Tryz.f114,zap [],[14,12],true,Tryz.func114,by kernel_rfl⟩
theorem e84:Ent (84,f84):=.inl ⟨Tryz.f90,zap [],[5,1],false,Tryz.func90,by kernel_rfl⟩
theorem e85:Ent (85,f85):=.inl ⟨Tryz.f91,zap [],[4,1],false,Tryz.func91,by kernel_rfl⟩
theorem e86:Ent (86,f86):=.inl ⟨Tryz.f92,zap [],[4,1],false,Tryz.func92,by kernel_rfl⟩
theorem e87:Ent (87,f87):=.inl ⟨Tryz.f93,zap [],[4,1],false,Tryz.func93,by kernel_rfl⟩
theorem e88:Ent (88,f88):=.inl ⟨Tryz.f94,zap [],[13,6,2],false,Tryz.func94,by kernel_rfl⟩
theorem e89:Ent (89,f89):=.inl ⟨Tryz.f209,zap [],[1],false,Tryz.func209,by kernel_rfl⟩
theorem e91:Ent (91,f91):=.inl ⟨Tryz.f210,zap [],[],false,Tryz.func210,by kernel_rfl⟩
theorem e95:Ent (95,f95):=.inl ⟨Tryz.f147,zap [],[],false,Tryz.func147,by kernel_rfl⟩
theorem e96:Ent (96,f96):=.inl ⟨Tryz.f98,zap [],[],false,Tryz.func98,by kernel_rfl⟩
theorem e97:Ent (97,f97):=.inl ⟨Tryz.f148,zap [],[5],true,Tryz.func148,by kernel_rfl⟩
theorem e98:Ent (98,f98):=.inl ⟨Tryz.f149,zap [],[1],false,Tryz.func149,by kernel_rfl⟩
theorem e99:Ent (99,f99):=.inl ⟨Tryz.f150,zap [],[5,4],false,Tryz.func150,by kernel_rfl⟩
theorem zvW:Ent (100,zr0):=.inl ⟨Tryz.f151,zap [],[2],false,Tryz.func151,by kernel_rfl⟩
theorem zvV:Ent (101,zrZ):=.inl ⟨Tryz.f152,zap [],[],false,Tryz.func152,by kernel_rfl⟩
theorem zvU:Ent (102,zrY):=.inl ⟨Tryz.f153,zap [],[],false,Tryz.func153,by kernel_rfl⟩
theorem zvT:Ent (103,zrX):=.inl ⟨Tryz.f154,zap [],[],false,Tryz.func154,by kernel_rfl⟩
theorem zvS:Ent (104,zrW):=.inl ⟨Tryz.f155,zap [],[],false,Tryz.func155,by kernel_rfl⟩
theorem zvR:Ent (105,zrV):=.inl ⟨Tryz.f156,zap [],[13,12,7,6,4],false,Tryz.func156,by kernel_rfl⟩
theorem zvQ:Ent (106,zrU):=.inl ⟨Tryz.f157,zap [],[],false,Tryz.func157,by kernel_rfl⟩
theorem zvP:Ent (107,zrT):=.inl ⟨Tryz.f158,zap [],[],false,Tryz.func158,by kernel_rfl⟩
theorem zvO:Ent (108,zrS):=.inl ⟨Tryz.f159,zap [],[2],false,Tryz.func159,by kernel_rfl⟩
theorem zvN:Ent (109,zrR):=.inl ⟨Tryz.f133,zap [],[],false,Tryz.func133,by kernel_rfl⟩
theorem zvM:Ent (110,f110):=.inl ⟨Tryz.f135,zap [],[],false,Tryz.func135,by kernel_rfl⟩
theorem zvL:Ent (111,f111):=.inl ⟨Tryz.f136,zap [],[1],false,Tryz.func136,by kernel_rfl⟩
theorem zvK:Ent (112,f112):=.inl ⟨Tryz.f137,zap [],[5,4],false,Tryz.func137,by kernel_rfl⟩
theorem zvJ:Ent (113,f113):=.inl ⟨Tryz.f138,zap [],[],false,Tryz.func138,by kernel_rfl⟩
theorem zvI:Ent (114,f114):=.inl ⟨Tryz.f139,zap [],[5,3],false,Tryz.func139,by kernel_rfl⟩
theorem zvH:Ent (115,f115):=.inl ⟨Tryz.f141,zap [],[5,4],false,Tryz.func141,by kernel_rfl⟩
theorem zvG:Ent (116,f116):=.inl ⟨Tryz.f222,zap [],[],false,Tryz.func222,by kernel_rfl⟩
theorem zvF:Ent (126,f126):=.inl ⟨Tryz.f166,zap [],[],false,Tryz.func166,by kernel_rfl⟩
theorem zvE:Ent (131,f131):=.inl ⟨Tryz.f188,zap [],[],false,Tryz.func188,by kernel_rfl⟩
theorem zvD:Ent (132,f132):=.inl ⟨Tryz.f189,zap [],[],false,Tryz.func189,by kernel_rfl⟩
theorem zvC:Ent (133,f133):=.inl ⟨Tryz.f190,zap [],[],false,Tryz.func190,by kernel_rfl⟩
theorem zvB:Ent (134,f134):=.inl ⟨Tryz.f191,zap [],[],false,Tryz.func191,by kernel_rfl⟩
theorem zvA:Ent (135,f135):=.inl ⟨Tryz.f192,zap [],[0],false,Tryz.func192,by kernel_rfl⟩
theorem zvz:Ent (136,f136):=.inl ⟨Tryz.f194,zap [],[],true,Tryz.func194,by kernel_rfl⟩
theorem zvy:Ent (137,f137):=.inl ⟨Tryz.f177,zap [],[12,5,3],false,Tryz.func177,by kernel_rfl⟩
theorem zvx:Ent (138,f138):=.inl ⟨Tryz.f179,zap [],[1],false,Tryz.func179,by kernel_rfl⟩
theorem zvw:Ent (144,f144):=.inl ⟨Tryz.f200,zap [],[],false,Tryz.func200,by kernel_rfl⟩
theorem zvv:Ent (145,zrQ):=.inl ⟨Tryz.f212,zap [],[],false,Tryz.func212,by kernel_rfl⟩
theorem zvu:Ent (146,zrP):=.inl ⟨Tryz.f213,zap [],[],false,Tryz.func213,by kernel_rfl⟩
theorem zvt:Ent (147,f147):=.inl ⟨Tryz.f214,zap [],[5,3],false,Tryz.func214,by kernel_rfl⟩
theorem zvs:Ent (148,f148):=.inl ⟨Tryz.f215,zap [],[11,9,5,3],false,Tryz.func215,by kernel_rfl⟩
theorem zvr:Ent (149,f149):=.inl ⟨Tryz.f216,zap [],[5],false,Tryz.func216,by kernel_rfl⟩
theorem zvq:Ent (150,f150):=.inl ⟨Tryz.f217,zap [],[5,3],false,Tryz.func217,by kernel_rfl⟩
theorem zvp:Ent (151,f151):=.inl ⟨Tryz.f218,zap [],[5,3],false,Tryz.func218,by kernel_rfl⟩
theorem zvo:Ent (152,f152):=.inl ⟨Tryz.f219,zap [],[5,3],false,Tryz.func219,by kernel_rfl⟩
theorem zvn:Ent (153,f153):=.inl ⟨Tryz.f220,zap [],[5,3],false,Tryz.func220,by kernel_rfl⟩
theorem zvm:Ent (154,f154):=.inl ⟨Tryz.f203,zap [],[3],false,Tryz.func203,by kernel_rfl⟩
theorem zvl:Ent (155,f155):=.inl ⟨Tryz.f204,zap [],[2],false,Tryz.func204,by kernel_rfl⟩
theorem zvk:Ent (156,f156):=.inl ⟨Tryz.f205,zap [],[3,2],false,Tryz.func205,by kernel_rfl⟩
theorem zvj:Ent (157,f157):=.inl ⟨Tryz.f206,zap [],[0],false,Tryz.func206,by kernel_rfl⟩
theorem zvi:Ent (158,f158):=.inl ⟨Tryz.f207,zap [],[3],true,Tryz.func207,by kernel_rfl⟩
theorem zvh:Ent (159,f159):=.inl ⟨Tryz.f208,zap [],[],false,Tryz.func208,by kernel_rfl⟩
theorem zvg:Ent (161,zrO):=.inl ⟨Tryz.f223,zap [],[6,2],false,Tryz.func223,by kernel_rfl⟩
theorem zvf:Ent (162,zrN):=.inl ⟨Tryz.f224,zap [],[6],false,Tryz.func224,by kernel_rfl⟩
theorem zve:Ent (163,zrM):=.inl ⟨Tryz.f225,zap [],[2],false,Tryz.func225,by kernel_rfl⟩
theorem zvd:Ent (164,zrL):=.inl ⟨Tryz.f226,zap [],[],false,Tryz.func226,by kernel_rfl⟩
theorem zvc:Ent (165,zrK):=.inl ⟨Tryz.f227,zap [],[1],false,Tryz.func227,by kernel_rfl⟩
theorem zvb:Ent (166,f166):=.inl ⟨Tryz.f228,zap [],[1],false,Tryz.func228,by kernel_rfl⟩
theorem zva:Ent (198,zs0):=.inr ⟨.cloneI,rfl,zlC Tryz.lays2n15 (by kernel_rfl) (rf:=Tryz.f74) ⟨Tryz.func74,by kernel_rfl,by kernel_rfl⟩⟩
theorem zu9:Ent (206,f206):=.inl ⟨Tryz.f122,zap [],[],false,Tryz.func122,by kernel_rfl⟩
theorem zu8:Ent (207,f207):=.inl ⟨Tryz.f172,zap [],[],false,Tryz.func172,by kernel_rfl⟩
theorem zu7:Ent (228,f228):=.inl ⟨Tryz.f126,zap [],[1],false,Tryz.func126,by kernel_rfl⟩
theorem zu6:Ent (253,zrJ):=.inl ⟨Tryz.f175,zap [],[7,2],false,Tryz.func175,by kernel_rfl⟩
theorem zu5:Ent (289,zrI):=.inl ⟨Tryz.f12,zap [],[2],false,Tryz.func12,by kernel_rfl⟩
theorem zu4:Ent (299,f299):=.inl ⟨Tryz.f36,zap [],[1],false,Tryz.func36,by kernel_rfl⟩
theorem zu3:Ent (300,f300):=.inl ⟨Tryz.f37,zap [],[10,7,2],true,Tryz.func37,by kernel_rfl⟩
theorem zu2:Ent (301,f301):=.inl ⟨Tryz.f38,zap [],[7],true,Tryz.func38,by kernel_rfl⟩
theorem zu1:Ent (307,zrH):=.inl ⟨Tryz.f76,zap [],[7,5,1],false,Tryz.func76,by kernel_rfl⟩
theorem zu0:Ent (309,zrG):=.inl ⟨Tryz.f77,zap [],[],false,Tryz.func77,by kernel_rfl⟩
theorem zuZ:Ent (310,zqg):=.inl ⟨Tryz.f78,zap [],[4,3],true,Tryz.func78,by kernel_rfl⟩
theorem zuY:Ent (311,zrF):=.inl ⟨Tryz.f79,zap [],[11,9,7,5,4],false,Tryz.func79,by kernel_rfl⟩
theorem zuX:Ent (312,zrE):=.inl ⟨Tryz.f80,zap [],[1],false,Tryz.func80,by kernel_rfl⟩
theorem zuW:Ent (313,zrD):=.inl ⟨Tryz.f81,zap [],[1],false,Tryz.func81,by kernel_rfl⟩
theorem zuV:Ent (314,zrC):=.inl ⟨Tryz.f82,zap [],[6],false,Tryz.func82,by kernel_rfl⟩
theorem zuU:Ent (315,zqf):=.inl ⟨Tryz.f83,zap [],[11],true,Tryz.func83,by kernel_rfl⟩
theorem zuT:Ent (316,zrB):=.inl ⟨Tryz.f84,zap [],[],false,Tryz.func84,by kernel_rfl⟩
theorem zuS:Ent (318,zrA):=.inl ⟨Tryz.f127,zap [],[3],false,Tryz.func127,by kernel_rfl⟩
theorem zuR:Ent (319,zrz):=.inl ⟨Tryz.f128,zap [],[5,3],false,Tryz.func128,by kernel_rfl⟩
theorem zuQ:Ent (320,zry):=.inl ⟨Tryz.f129,zap [],[5],false,Tryz.func129,by kernel_rfl⟩
theorem zuP:Ent (321,zrx):=.inl ⟨Tryz.f130,zap [],[],false,Tryz.func130,by kernel_rfl⟩
theorem zuO:Ent (322,zrw):=.inl ⟨Tryz.f131,zap [],[],true,Tryz.func131,by kernel_rfl⟩
theorem zuN:Ent (325,zrv):=.inl ⟨Tryz.f176,zap [],[7],false,Tryz.func176,by kernel_rfl⟩
theorem zxi:Ent (396,zw5):=.inl ⟨Tryz.f4,zap [],[13,3],false,Tryz.func4,by kernel_rfl⟩
theorem zx1:Ent (397,zxZ):=.inl ⟨Tryz.f5,zap [],[17,15,13,4],false,Tryz.func5,by kernel_rfl⟩
theorem zuK:Ent (401,zsZ):=.inl ⟨Tryz.f9,zap [],[8,6,1],false,Tryz.func9,by kernel_rfl⟩
theorem zuJ:Ent (402,zrs):=.inl ⟨Tryz.f10,zap [],[1],false,Tryz.func10,by kernel_rfl⟩
theorem zuI:Ent (403,zrr):=.inl ⟨Tryz.f11,zap [],[11],false,Tryz.func11,by kernel_rfl⟩
theorem zuH:Ent (404,zrq):=.inl ⟨Tryz.f13,zap [],[7,4,2],false,Tryz.func13,by kernel_rfl⟩
theorem zxh:Ent (406,zw4):=.inl ⟨Tryz.f15,zap [],[2],false,Tryz.func15,by kernel_rfl⟩
theorem zxg:Ent (407,zw3):=.inl ⟨Tryz.f16,zap [],[2],false,Tryz.func16,by kernel_rfl⟩
theorem zxf:Ent (408,zw2):=.inl ⟨Tryz.f17,zap [],[9,7,4,2],false,Tryz.func17,by kernel_rfl⟩
theorem zuF:Ent (409,zro):=.inl ⟨Tryz.f18,zap [],[1],false,Tryz.func18,by kernel_rfl⟩
theorem zuE:Ent (412,zsY):=.inl ⟨Tryz.f28,zap [],[6,5,2,1,0],false,Tryz.func28,by kernel_rfl⟩
theorem zuD:Ent (413,zsX):=.inl ⟨Tryz.f29,zap [],[],false,Tryz.func29,by kernel_rfl⟩
theorem zuC:Ent (414,zrn):=.inl ⟨Tryz.f30,zap [],[1],false,Tryz.func30,by kernel_rfl⟩
theorem zuB:Ent (415,zrm):=.inl ⟨Tryz.f31,zap [],[1],false,Tryz.func31,by kernel_rfl⟩
theorem zuA:Ent (416,zrl):=.inl ⟨Tryz.f32,zap [],[7,5,1],false,Tryz.func32,by kernel_rfl⟩
theorem zuz:Ent (417,zrk):=.inl ⟨Tryz.f33,zap [],[],false,Tryz.func33,by kernel_rfl⟩
theorem zuy:Ent (418,zrj):=.inl ⟨Tryz.f34,zap [],[17,15,13,11,10,8,4,2],false,Tryz.func34,by kernel_rfl⟩
theorem zux:Ent (419,zsW):=.inr ⟨.cloneT 2,rfl,zfN Tryz.lays41_35 rfl rfl rfl rfl rfl (by decide) (fun _=>rfl) (by decide) (by kernel_rfl) (rf:=Tryz.f35) ⟨Tryz.func35,by kernel_rfl,by kernel_rfl⟩⟩
theorem zxe:Ent (420,zw1):=.inl ⟨Tryz.f39,zap [],[3],false,Tryz.func39,by kernel_rfl⟩
theorem zxd:Ent (421,zw0):=.inl ⟨Tryz.f40,zap [],[3,2],false,Tryz.func40,by kernel_rfl⟩
theorem zxc:Ent (422,zwZ):=.inl ⟨Tryz.f41,zap [],[8,5,4,2],false,Tryz.func41,by kernel_rfl⟩
theorem zuw:Ent (424,zri):=.inl ⟨Tryz.f66,zap [],[2],false,Tryz.func66,by kernel_rfl⟩
theorem zuv:Ent (425,zrh):=.inl ⟨Tryz.f67,zap [7],[],true,Tryz.func67,by kernel_rfl⟩
theorem zuu:Ent (426,zqe):=.inl ⟨Tryz.f68,zap [16,35],[],true,Tryz.func68,by kernel_rfl⟩
theorem zut:Ent (427,zrg):=.inl ⟨Tryz.f69,zap [],[],false,Tryz.func69,by kernel_rfl⟩
theorem zus:Ent (428,zsV):=.inr ⟨.cloneT 6,rfl,zfN Tryz.lays41_72 rfl rfl rfl rfl rfl (by decide) (fun _=>rfl) (by decide) (by kernel_rfl) (rf:=Tryz.f72) ⟨Tryz.func72,by kernel_rfl,by kernel_rfl⟩⟩
theorem zur:Ent (429,zrf):=.inl ⟨Tryz.f73,zap [],[5,2,1],false,Tryz.func73,by kernel_rfl⟩
theorem zuq:Ent (430,zre):=.inl ⟨Tryz.f75,zap [],[15,10,7,4,2],false,Tryz.func75,by kernel_rfl⟩
theorem zxb:Ent (431,zwY):=.inl ⟨Tryz.f85,zap [],[],false,Tryz.func85,by kernel_rfl⟩
theorem zxa:Ent (432,zwX):=.inl ⟨Tryz.f86,zap [],[4,2],false,Tryz.func86,by kernel_rfl⟩
theorem zw9:Ent (433,zwW):=.inl ⟨Tryz.f87,zap [],[5,4,2],false,Tryz.func87,by kernel_rfl⟩
theorem zup:Ent (434,zrd):=.inl ⟨Tryz.f115,zap [],[],false,Tryz.func115,by kernel_rfl⟩
theorem zuo:Ent (435,zrc):=.inl ⟨Tryz.f116,zap [],[2],false,Tryz.func116,by kernel_rfl⟩
theorem zun:Ent (436,zrb):=.inl ⟨Tryz.f119,zap [],[],false,Tryz.func119,by kernel_rfl⟩
theorem zum:Ent (437,zra):=.inl ⟨Tryz.f120,zap [],[],false,Tryz.func120,by kernel_rfl⟩
theorem zul:Ent (438,zq9):=.inl ⟨Tryz.f121,zap [],[],false,Tryz.func121,by kernel_rfl⟩
theorem zuk:Ent (439,zq8):=.inl ⟨Tryz.f123,zap [],[5],false,Tryz.func123,by kernel_rfl⟩
theorem zuj:Ent (440,zq7):=.inl ⟨Tryz.f171,zap [],[],false,Tryz.func171,by kernel_rfl⟩
theorem all: ∀q∈zst,Ent q:=by
 unfold zst;simp only[List.forall_mem_cons];exact⟨e9,e23,e24,e28,e31,e33,e36,e39,e47,e48,e49,e51,e57,e60,e61,e62,e64,e65,e68,e70,e71,e74,e75,e76,e77,e78,e79,e80,e81,e82,e83,e84,e85,e86,e87,e88,e89,e91,e95,e96,e97,e98,e99,zvW,zvV,zvU,zvT,zvS,zvR,zvQ,zvP,zvO,zvN,zvM,zvL,zvK,zvJ,zvI,zvH,zvG,zvF,zvE,zvD,zvC,zvB,zvA,zvz,zvy,zvx,zvw,zvv,zvu,zvt,zvs,zvr,zvq,zvp,zvo,zvn,zvm,zvl,zvk,zvj,zvi,zvh,zvg,zvf,zve,zvd,zvc,zvb,zva,zu9,zu8,zu7,zu6,zu5,zu4,zu3,zu2,zu1,zu0,zuZ,zuY,zuX,zuW,zuV,zuU,zuT,zuS,zuR,zuQ,zuP,zuO,zuN,zxi,zx1,zuK,zuJ,zuI,zuH,zxh,zxg,zxf,zuF,zuE,zuD,zuC,zuB,zuA,zuz,zuy,zux,zxe,zxd,zxc,zuw,zuv,zuu,zut,zus,zur,zuq,zxb,zxa,zw9,zup,zuo,zun,zum,zul,zuk,zuj,fun _ h=>by cases h⟩
end Seat
end Rg
end
