/- Part of the proof of laws of relyguardlaw31. No condition. -/
import Derived.Laws.IdiomStrings
import Derived.Test.YtcmeofagpechdaaGreatDoorPartAC
import Derived.Deep.AppendSrc
set_option linter.unusedVariables false
set_option linter.unusedSimpArgs false
section
namespace Rg
open Go
def zal (w:World) (A:Nat->Prop) (nm μ:Nat->Nat) (H:Nat->Option O) (sz:Nat) (cs:List Value) (rs:List (List V)):Prop:=
 cs.length=rs.length*sz/\(∀(i:Nat) (row:List V),rs[i]? =some row->row.length=sz)/\
  ∀(i:Nat) (row:List V) (j:Nat) (x:V),rs[i]? =some row->row[j]? =some x-> ∃v,cs[i*sz+j]? =some v/\RepC w A nm μ H v x
section
variable {w w' : World} {A A' : Nat->Prop} {nm μ μ' : Nat->Nat} {H H' : Nat->Option O} {sz:Nat}
theorem zal.evo {cs:List Value} {rs:List (List V)} (h:zal w A nm μ H sz cs rs) (E:Evo w A μ H w' A' μ' H'):zal w' A' nm μ' H' sz cs rs:=
 ⟨h.1,h.2.1,fun i row j x h1 h2=>let⟨v,hv,hr⟩:=h.2.2 i row j x h1 h2;⟨v,hv,hr.evo E⟩⟩
theorem row_lt {i j n sz:Nat} (hi:i<n) (hj:j<sz):i*sz+j<n*sz:=by
 have:(i+1)*sz<=n*sz:=Nat.mul_le_mul_right _ hi;rw[Nat.succ_mul]at this;omega
theorem zal.append {cs ds:List Value} {rs ts:List (List V)} (h:zal w A nm μ H sz cs rs) (h':zal w A nm μ H sz ds ts):zal w A nm μ H sz (cs++ds) (rs++ts):=by
 refine⟨by simp[h.1,h'.1,Nat.add_mul],fun i row hi=> ?_,fun i row j x hi hj=> ?_⟩
 ·rw[List.getElem?_append]at hi;split at hi
  ·exact h.2.1 i row hi
  ·exact h'.2.1 _ row hi
 ·rw[List.getElem?_append]at hi;split at hi
  ·rename_i hlt;obtain⟨v,hv,hr⟩:=h.2.2 i row j x hi hj;refine⟨v,?_,hr⟩;rw[List.getElem?_append_left (zH.1 hv).1];exact hv
  ·rename_i hge;obtain⟨v,hv,hr⟩:=h'.2.2 _ row j x hi hj;refine⟨v,?_,hr⟩;have e:i*sz=rs.length*sz+(i-rs.length)*sz:=by rw[<- Nat.add_mul];congr 1;omega
   rw[List.getElem?_append_right (by rw[h.1];omega)];have:i*sz+j-cs.length=(i-rs.length)*sz+j:=by rw[h.1];omega
   rw[this];exact hv
theorem zal.take {cs:List Value} {rs:List (List V)} (h:zal w A nm μ H sz cs rs) (m:Nat) (hm:m<=rs.length):zal w A nm μ H sz (cs.take (m*sz)) (rs.take m):=by
 have hle:m*sz<=rs.length*sz:=Nat.mul_le_mul_right _ hm;refine⟨by simp[h.1,Nat.min_eq_left hm,Nat.min_eq_left hle],fun i row hi=> ?_,fun i row j x hi hj=> ?_⟩
 ·rw[List.getElem?_take]at hi;split at hi
  ·exact h.2.1 i row hi
  ·simp at hi
 ·rw[List.getElem?_take]at hi;split at hi
  ·rename_i hlt;obtain⟨v,hv,hr⟩:=h.2.2 i row j x hi hj;have hjl:j<sz:=by rw[<- h.2.1 i row hi];exact(zH.1 hj).1
   refine⟨v,?_,hr⟩;rw[List.getElem?_take,if_pos (row_lt hlt hjl)];exact hv
  ·simp at hi
theorem zal.nil:zal w A nm μ H sz [] []:=⟨by simp,by simp,by simp⟩
theorem zal.one {cs:List Value} {rs:List (List V)} (h:zal w A nm μ H sz cs rs) (hsz:0<sz): ∀v∈cs,v.oneCell'=true:=by
 intro v hv;obtain⟨q,hq,he⟩:=List.getElem_of_mem hv;have hlt:q<rs.length*sz:=by rw[<- h.1];exact hq
 have hi:q/ sz<rs.length:=Nat.div_lt_of_lt_mul (by rw[Nat.mul_comm];exact hlt);have hrow:=h.2.1 (q/ sz) _ (zI hi);have hj:q % sz<(rs[q/ sz]).length:=by rw[hrow];exact Nat.mod_lt _ hsz
 obtain⟨u,hu,hr⟩:=h.2.2 (q/ sz) _ (q % sz) _ (zI hi) (zI hj);have e:q/ sz*sz+q % sz=q:=by rw[Nat.mul_comm];exact Nat.div_add_mod q sz
 rw[e,zI hq,he]at hu;cases hu;exact hr.one
end
section
variable {P:Program} {N:Nam} {I:Inv} {c:Ctx} {ns p:Nat} {A:Nat->Prop} {μ lam:Nat->Nat} {s:St} {a:Act} {w:World} {e:Eff} {o:Oper}
theorem zd5 (R:Rel N c ns A μ lam s a w) {v:Value} {x:V} {rs:List (List V)} {sz:Nat} (hns: ∀es,x≠ .t (.slc es)) (hrep:RepV w A N.nm μ s.heap v x) (hrows:zbs s x=some rs) (hall:rs.all (·.length=sz)=true):
 ∃ad cap cs,v= .slice ad rs.length cap/\rs.length<=cap/\zal w A N.nm μ s.heap sz cs rs/\
  (∀w':World,(∀ad,w'.cell? ad=w.cell? ad)-> ∀m,m<=rs.length->(Builtin.firstCells sz m v).run P w'= .ok (cs.take (m*sz)).toArray w'):=by
 have hlen: ∀(i:Nat) (row:List V),rs[i]? =some row->row.length=sz:=by
  intro i row hi;have:=List.all_eq_true.1 hall row (List.mem_of_getElem? hi);simpa using this
 have hempty: ∀ad cap,rs=[]->v= .slice ad 0 cap-> ∃ad cap cs,v= .slice ad rs.length cap/\rs.length<=cap/\zal w A N.nm μ s.heap sz cs rs/\
  (∀w':World,(∀ad,w'.cell? ad=w.cell? ad)-> ∀m,m<=rs.length->(Builtin.firstCells sz m v).run P w'= .ok (cs.take (m*sz)).toArray w'):=by
  rintro ad cap rfl rfl;refine⟨ad,cap,[],rfl,by simp,zal.nil,fun w' _ m hm=> ?_⟩;have:m=0:=by simpa using hm
  subst this
  cases ad with
  | none=>simp[Builtin.firstCells]
  | some ad=>simp[Builtin.firstCells,loadCells,loadCellsFrom]
 unfold zbs at hrows;split at hrows
 ·simp only[zA]at hrows;subst hrows;obtain⟨ad,rfl⟩:=hrep.t_inv.nils_inv;exact hempty ad 0 rfl rfl
 ·rename_i es;simp only[zA]at hrows;subst hrows;rcases hrep.t_inv.sl_inv with⟨rfl,ad,cap,rfl⟩ | ⟨r,off,cap,sz',vf,rfl,h0,hc,hA,hs,hvv,hr⟩
  ·exact hempty ad cap rfl rfl
  ·have hsz:sz'=sz:=by
    have h1:=hs 0 es[0] (zI h0);have h2:=hlen 0 (es[0].map V.t) (by simp[zJ,zI h0]);simp at h2;omega
   subst hsz;refine⟨some ⟨r,off,none⟩,cap,(List.range (es.length*sz')).map (fun q=>vf (q/ sz') (q % sz')),by simp,by simpa using hc,⟨by simp,hlen,?_⟩,?_⟩
   ·intro i row j x hi hj;simp only[zJ,zE]at hi;obtain⟨e0,he0,rfl⟩:=hi;simp only[zJ,zE]at hj;obtain⟨y,hy,rfl⟩:=hj;have hil:i<es.length:=(zH.1 he0).1;have hjl:j<sz':=by rw[<- hs i e0 he0];exact(zH.1 hy).1
    have hq:=row_lt hil hjl;refine⟨vf i j,?_,.t (hr i e0 j y he0 hy)⟩;rw[zJ,List.getElem?_range hq];have h1:(i*sz'+j)/ sz'=i:=by rw[Nat.mul_comm,Nat.mul_add_div (by omega)];simp[Nat.div_eq_of_lt hjl]
    have h2:(i*sz'+j) % sz'=j:=by rw[Nat.mul_comm,Nat.mul_add_mod];exact Nat.mod_eq_of_lt hjl
    simp[h1,h2]
   ·intro w' hw' m hm;simp only[List.length_map]at hm;have hle:m*sz'<=es.length*sz':=Nat.mul_le_mul_right _ hm;have hl:(((List.range (es.length*sz')).map (fun q=>vf (q/ sz') (q % sz'))).take (m*sz')).length=m*sz':=by rw[List.length_take,List.length_map,List.length_range];omega
    have:=run_loadCells_list (P:=P) (w:=w') ⟨r,off,none⟩ (((List.range (es.length*sz')).map (fun q=>vf (q/ sz') (q % sz'))).take (m*sz')) (fun q v hq=>by
     rw[List.getElem?_take]at hq;split at hq
     ·rename_i hql;have hql':q<es.length*sz':=by omega
      rw[zJ,List.getElem?_range hql']at hq;simp only[Option.map_some,zA]at hq;subst hq
      have hszp:0<sz':=by
       rcases Nat.eq_zero_or_pos sz' with h | h
       ·rw[h]at hql';simp at hql'
       ·exact h
      have hi:q/ sz'<es.length:=Nat.div_lt_of_lt_mul (by rw[Nat.mul_comm];exact hql');have hrow:=hs (q/ sz') _ (zI hi);have hj:q % sz'<(es[q/ sz']).length:=by rw[hrow];exact Nat.mod_lt _ hszp
      have:=hvv (q/ sz') _ (q % sz') _ (zI hi) (zI hj);rw[za1,hw'];have e:off+q/ sz'*sz'+q % sz'=off+q:=by rw[Nat.add_assoc,Nat.mul_comm,Nat.div_add_mod]
      rw[e]at this;exact this
     ·simp at hq)
    rw[hl]at this;simp[Builtin.firstCells,this]
 ·rename_i es;exact absurd rfl (hns es)
 ·rename_i k i len;split at hrows
  ·rename_i sz' rs0 frz hk;unfold rd at hrows;split at hrows
   ·rename_i hle;simp only[zA]at hrows;subst hrows;have hlen':((rs0.drop i).take len).length=len:=by simp;omega
    cases(hrep:RepC w A N.nm μ s.heap v _)with
    | ms _ _ _ cap sz2 rs2 frz2 ad hk' hi' hc ha=>
      rw[hk]at hk';cases hk';rcases Nat.eq_zero_or_pos len with hl0 | hl0
      ·subst hl0;exact hempty ad cap (by simp) rfl
      ·obtain⟨rfl,_⟩:=ha.resolve_left (by omega);obtain⟨cc,e0,z,h1,h2,h3,h4,h5⟩:=R.heap k _ hk
       have hsz:sz'=sz:=by
        have hil:i<rs0.length:=by omega
        have h6:=h4 i _ (zI hil);have h7:=hlen 0 rs0[i] (by rw[List.getElem?_take,if_pos hl0,List.getElem?_drop];simp[zI hil]);omega
       subst hsz;have hbound:(i+len)*sz'<=cc.size:=Nat.le_trans (Nat.mul_le_mul_right _ hle) h3
       have hcsl:((cc.toList.drop (i*sz')).take (len*sz')).length=len*sz':=by
        rw[Nat.add_mul]at hbound;simp;omega
       refine⟨_,cap,(cc.toList.drop (i*sz')).take (len*sz'),by rw[hlen'],by rw[hlen'];omega,⟨by rw[hcsl,hlen'],hlen,?_⟩,?_⟩
       ·intro i1 row j x hi1 hj;rw[List.getElem?_take]at hi1;split at hi1
        ·rename_i hlt;rw[List.getElem?_drop]at hi1;have hjl:j<sz':=by rw[<- h4 _ row hi1];exact(zH.1 hj).1
         obtain⟨v,hv,hr⟩:=h5 _ row j x hi1 hj;refine⟨v,?_,hr⟩;rw[List.getElem?_take,if_pos (row_lt hlt hjl),List.getElem?_drop,Array.getElem?_toList];rw[Nat.add_mul]at hv;rw[<- Nat.add_assoc];exact hv
        ·simp at hi1
       ·intro w' hw' m hm;rw[hlen']at hm;have hle2:m*sz'<=len*sz':=Nat.mul_le_mul_right _ hm;have hl:(((cc.toList.drop (i*sz')).take (len*sz')).take (m*sz')).length=m*sz':=by rw[List.length_take,hcsl];omega
        have:=run_loadCells_list (P:=P) (w:=w') ⟨μ k,i*sz',none⟩ (((cc.toList.drop (i*sz')).take (len*sz')).take (m*sz')) (fun q v hq=>by
         rw[List.getElem?_take]at hq;split at hq
         ·rw[List.getElem?_take]at hq;split at hq
          ·rw[List.getElem?_drop,Array.getElem?_toList]at hq;rw[za1,hw'];simp[World.cell?,h1,hq]
          ·simp at hq
         ·simp at hq)
        rw[hl]at this
        simp[Builtin.firstCells,this]
    | dms _ _ _ hk'=>rw[hk]at hk';cases hk'
   ·simp at hrows
  ·simp at hrows
 ·simp at hrows
theorem zcn (R:Rel N c ns A μ lam s a w) {v:Value} {x:V} {rs:List (List V)} {sz:Nat} (hrep:RepV w A N.nm μ s.heap v x) (hrows:zbs s x=some rs) (hall:rs.all (·.length=sz)=true):
 ∃ad cap cs,v= .slice ad rs.length cap/\rs.length<=cap/\zal w A N.nm μ s.heap sz cs rs/\
  (∀w':World,(∀ad,w'.cell? ad=w.cell? ad)-> ∀m,m<=rs.length->(Builtin.firstCells sz m v).run P w'= .ok (cs.take (m*sz)).toArray w'):=by
 by_cases h: ∃es,x= .t (.slc es)
 ·obtain⟨es,rfl⟩:=h
  have h1:RepV w A N.nm μ s.heap v (.t (.sl es)):=by
   have h2:=hrep.t_inv
   cases h2 with
   | slc a _ h3=>exact(RepC.t h3).toV
  exact zd5 R (fun es' he=>by cases he) h1 hrows hall
 ·exact zd5 R (fun es he=>h ⟨es,he⟩) hrep hrows hall
theorem ze7: ∀{rs:List (List V)} {l:List UInt8},bytesOf rs=some l->l.length=rs.length/\ ∀(i:Nat) (b:UInt8),l[i]? =some b->rs[i]? =some [.t (.int .u8 b.toNat)]
 | [],l,h=>by simp only[bytesOf,zA]at h;subst h;simp
 | r::rs,l,h=>by
   unfold bytesOf at h;split at h
   ·rename_i h0;cases h0
   ·rename_i z r' h0;cases h0;split at h
    ·rename_i hz;simp only[zE]at h;obtain⟨l',hl',rfl⟩:=h;obtain⟨h1,h2⟩:=ze7 hl';refine⟨by simp[h1],fun i b hi=> ?_⟩
     cases i with
     | zero=>
       simp only[List.getElem?_cons_zero,zA]at hi;subst hi
       have:((UInt8.ofNat z.toNat).toNat:Int)=z:=by
        rw[UInt8.toNat_ofNat',Nat.mod_eq_of_lt (by omega)];omega
       rw[this];rfl
     | succ i=>simpa using h2 i b (by simpa using hi)
    ·cases h
   ·cases h
theorem s_bstr (hI:I.Ok N) (R:Rel N c ns A μ lam s a w) {src dst t:TypeId} {x:Operand} {x':Opd} (hx:opd I x=some x') (he:zv7 N.G p s (.bstr x')=some e)
 (h1:P.underlying src=some (.slice t)) (h2:P.underlying dst=some .string) (h3:P.underlying t=some (.int .u8)):zbj N A μ s w ((convert src dst (a.eval x)).run P w) e:=by
 simp only[zv7,zC,zB,zA]at he;obtain⟨u,hu,rs,hrs,l,hl,rfl⟩:=he;obtain⟨b1,b2⟩:=ze7 hl
 have hall:rs.all (·.length=1)=true:=by
  rw[List.all_eq_true];intro row hrow;obtain⟨i,hi,rfl⟩:=List.getElem_of_mem hrow;have hil:i<l.length:=by omega
  have:=b2 i l[i] (zI hil);rw[zI hi,zA]at this;rw[this];rfl
 obtain⟨ad,cap,cs,hv,hcap,hrep,hload⟩:=zcn (P:=P) R (opd_eval hI R hx hu) hrs hall
 have hcs:cs=(l.map fun b=>(b.toNat:Int)).map (Value.int .u8):=by
  apply List.ext_getElem?;intro i
  by_cases hi:i<l.length
  ·obtain⟨v,hv1,hr⟩:=hrep.2.2 i _ 0 _ (b2 i l[i] (zI hi)) rfl;rw[Nat.mul_one,Nat.add_zero]at hv1;cases hr.toV.int_inv;rw[hv1];simp[hi]
  ·rw[List.getElem?_eq_none (by have:=hrep.1;omega),List.getElem?_eq_none (by simp;omega)]
 refine⟨.string ⟨l.toArray⟩,?_,(RepC.t (.str _)).toV,rfl,rfl,rfl,rfl⟩;rw[hv]
 cases ad with
 | none=>
   have h0:=hload w (fun _=>rfl) rs.length (Nat.le_refl _);rw[hv]at h0;simp only[Builtin.firstCells,Sem.run_pure]at h0
   have:l=[]:=by
    have h4:=congrArg (fun r=>match r with | Result.ok (x:Array Value) _=>x.size | _=>0) h0;simp only[Nat.mul_one,List.size_toArray,List.length_take]at h4;have h5:=hrep.1;simp only[Nat.mul_one]at h5;rw[h5,Nat.min_self]at h4;exact List.eq_nil_of_length_eq_zero (by rw[b1];exact h4.symm)
   subst this;rw[run_convert_bytes_string w src dst t none rs.length cap h1 h3 h2];simp only[Conv.bytesToString,Sem.run_pure]
   congr 1
 | some ad=>
   have h0:=hload w (fun _=>rfl) rs.length (Nat.le_refl _);rw[hv]at h0;simp only[Builtin.firstCells]at h0;rw[run_convert_bytes_string w src dst t (some ad) rs.length cap h1 h3 h2,run_bytesToString w ad rs.length cap (l.map fun b=>(b.toNat:Int)),foldl_push_byteCells]
   ·simp
   ·rw[<- hcs];have e:cs.take (rs.length*1)=cs:=by rw[List.take_of_length_le];rw[hrep.1];exact Nat.le_refl _
    rw[e,Nat.mul_one]at h0;exact h0
end
end Rg
end
section
namespace Rg
open Go
section
variable {w:World} {A:Nat->Prop} {nm μ:Nat->Nat} {H:Nat->Option O} {sz:Nat}
theorem zal.set {cs us cs':List Value} {rs:List (List V)} {new:List V} {i:Nat} (h:zal w A nm μ H sz cs rs) (hn:zct w A nm μ H us new) (hl:new.length=sz) (hi:i<rs.length)
 (hcl:cs'.length=cs.length) (hg: ∀k,k<cs.length->cs'[k]? =if i*sz<=k/\k<i*sz+us.length then us[k-i*sz]? else cs[k]?):zal w A nm μ H sz cs' (rs.set i new):=by
 refine⟨by simp[hcl,h.1],fun i' row hr=> ?_,fun i' row j x hr hj=> ?_⟩
 ·rcases zex hr with⟨rfl,rfl⟩ | ⟨_,hr⟩
  ·exact hl
  ·exact h.2.1 i' row hr
 ·have hul:us.length=sz:=by rw[hn.1,hl]
  rcases zex hr with⟨rfl,rfl⟩ | ⟨hne,hr⟩
  ·have hjl:j<sz:=by rw[<- hl];exact(zH.1 hj).1
   obtain⟨v,hv,hrep⟩:=hn.2 j x hj;refine⟨v,?_,hrep⟩;rw[hg _ (by rw[h.1];exact row_lt hi hjl),if_pos (by omega)];have:i'*sz+j-i'*sz=j:=by omega
   rw[this];exact hv
  ·have hjl:j<sz:=by rw[<- h.2.1 i' row hr];exact(zH.1 hj).1
   have hil:i'<rs.length:=(zH.1 hr).1;obtain⟨v,hv,hrep⟩:=h.2.2 i' row j x hr hj;refine⟨v,?_,hrep⟩;rw[hg _ (by rw[h.1];exact row_lt hil hjl),if_neg]
   ·exact hv
   ·intro hh;rcases Nat.lt_or_gt_of_ne hne with hlt | hlt
    ·have:=Nat.mul_le_mul_right sz (Nat.succ_le_of_lt hlt);rw[Nat.succ_mul]at this;omega
    ·have:=Nat.mul_le_mul_right sz (Nat.succ_le_of_lt hlt);rw[Nat.succ_mul]at this;omega
theorem zal.replicate {zv:Array Value} {z:List V} (h:zct w A nm μ H zv.toList z) (hl:z.length=sz) (len n:Nat) (hn:n=len*sz):
 zal w A nm μ H sz ((Array.range n).map (zv[· % zv.size]!)).toList (List.replicate len z):=by
 subst hn;have hsz:zv.size=sz:=by have:=h.1;simp at this;omega
 refine⟨by simp,fun i row hr=> ?_,fun i row j x hr hj=> ?_⟩
 ·rw[List.getElem?_replicate]at hr;split at hr
  ·simp at hr;rw[<- hr,hl]
  ·simp at hr
 ·rw[List.getElem?_replicate]at hr;split at hr
  ·rename_i hlt;simp only[zA]at hr;subst hr;have hjl:j<sz:=by rw[<- hl];exact(zH.1 hj).1
   obtain⟨v,hv,hrep⟩:=h.2 j x hj;refine⟨v,?_,hrep⟩;have hq:=row_lt hlt hjl;have hm:(i*sz+j) % sz=j:=by rw[Nat.mul_comm,Nat.mul_add_mod];exact Nat.mod_eq_of_lt hjl
   simp only[Array.getElem?_toList]at hv;have hjz:j<zv.size:=by omega
   simp only[Array.toList_map,Array.toList_range,zJ,List.getElem?_range hq,Option.map_some,hsz,hm];rw[Array.getElem?_eq_getElem hjz]at hv;simp only[zA]at hv;simp[hjz,hv]
  ·simp at hr
end
section
variable {P:Program} {N:Nam} {I:Inv} {c:Ctx} {ns p:Nat} {A:Nat->Prop} {μ lam:Nat->Nat} {s:St} {a:Act} {w:World} {e:Eff} {o:Oper}
theorem zd6 (hI:I.Ok N) (R:Rel N c ns A μ lam s a w) (sz:Nat): ∀(parts:List (Nat×Operand)) (ps:List (Nat×Opd)) (cells:Array Value) (rs rs':List (List V)),
 (parts.length=ps.length/\ ∀(i:Nat) (q:Nat×Opd),ps[i]? =some q-> ∃x,parts[i]? =some x/\x.1=q.1/\opd I x.2=some q.2)->
 zal w A N.nm μ s.heap sz cells.toList rs->za7 N.G rs sz s ps=some rs'->
 ∃cells',Instr.fill (fun i=>some (i*sz,sz)) cells (parts.map fun x=>(x.1,a.eval x.2))=some cells'/\zal w A N.nm μ s.heap sz cells'.toList rs'/\rs'.length=rs.length
 | [],ps,cells,rs,rs',hps,hrep,hf=>by
   obtain⟨hl,_⟩:=hps;have:ps=[]:=List.length_eq_zero_iff.1 (by simpa using hl.symm);subst this;simp only[za7,zA]at hf;subst hf
   exact⟨cells,rfl,hrep,rfl⟩
 | (i,x)::parts,[],cells,rs,rs',hps,hrep,hf=>by simp at hps
 | (i,x)::parts,(i',y)::ps,cells,rs,rs',hps,hrep,hf=>by
   obtain⟨hl,hq⟩:=hps;obtain⟨q0,hq0,hpl,hop⟩:=hq 0 _ rfl;simp only[List.getElem?_cons_zero,zA]at hq0;subst hq0;simp only at hpl hop;subst hpl;simp only[za7,zC,zB]at hf;obtain⟨v,hv,new,hnew,hf⟩:=hf;split at hf
   ·rename_i hlen;obtain⟨hlen,hil⟩:=hlen;have hr:=(opd_eval hI R hop hv).cells hnew;have hsz:(a.eval x).cells.size=sz:=by have:=hr.1;simp at this;omega
    have hcl:cells.size=rs.length*sz:=by have:=hrep.1;simpa using this
    obtain⟨f1,f2⟩:=zgj (i*sz) (a.eval x).cells.toList 0 cells
    have hrep1:zal w A N.nm μ s.heap sz (((a.eval x).cells.toList.zipIdx 0).foldl (fun cs (x:Value×Nat)=>match x with | (c,j)=>cs.setIfInBounds (i*sz+j) c) cells).toList (rs.set i new):=by
     refine hrep.set hr hlen hil (by simpa using f1) (fun k hk=> ?_);simp only[Array.getElem?_toList];rw[f2 k];simp only[Nat.add_zero,Array.length_toList]at hk⊢
     by_cases hc:i*sz<=k/\k<i*sz+(a.eval x).cells.size
     ·rw[if_pos ⟨hc.1,hc.2,hk⟩,if_pos hc];simp
     ·rw[if_neg (by omega),if_neg hc]
    obtain⟨cells',h1,h2,h3⟩:=zd6 hI R sz parts ps _ (rs.set i new) rs' ⟨by simpa using hl,fun i q hi=>by
     obtain⟨z,hz,hz2⟩:=hq (i+1) q (by simpa using hi)
     exact⟨z,by simpa using hz,hz2⟩⟩ hrep1 hf
    refine⟨cells',?_,h2,by simpa using h3⟩
    have hfit:i*sz+sz<=cells.size:=by
     rw[hcl];have:=Nat.mul_le_mul_right sz (Nat.succ_le_of_lt hil);rw[Nat.succ_mul]at this;exact this
    simp only[List.map_cons,Instr.fill,hsz];rw[<- h1];have:(decide (sz≠sz)||decide (i*sz+sz>cells.size))=false:=by simp;omega
    simp only[this,zG,if_false]
    congr 1
    rw[<- Array.foldl_toList];simp
   ·simp at hf
theorem zsG (R:Rel N c ns A μ lam s a w) {k sz cap:Nat} {cells:Array Value} {cs:List Value} {rs:List (List V)} {t:TypeId} {d:Option Nat} (hk:s.heap k=none) (hn:k<s.nxt)
 (hrs:zal w A N.nm μ s.heap sz cs rs) (hpre: ∀(q:Nat) (v:Value),cs[q]? =some v->cells[q]? =some v) (hsize:cap*sz<=cells.size) (hcap:rs.length<=cap)
 (hd: ∀x,d=some x->x<ns) (hf:s.free d {}):
 Rel N c ns A (upd μ k w.heap.size) lam (s.apply d { val:=.ms k 0 rs.length,hp:=[(k,.rows sz rs false)] }) (a.put d (.slice (some ⟨w.heap.size,0,none⟩) rs.length cap)) (w.alloc (.cells cells t)):=by
 have R1:=zsH R (t:=t) (cells:=cells) hk hn (Nat.le_trans (Nat.mul_le_mul_right _ hcap) hsize) hrs.2.1 (fun i row j x h1 h2=>by
  obtain⟨v,hv,hr⟩:=hrs.2.2 i row j x h1 h2
  exact⟨v,hpre _ v hv,hr⟩)
 refine R1.put d { val:=.ms k 0 rs.length } _ hd hf rfl rfl rfl ?_ (by simp)
 have:=RepC.ms (w:=w.alloc (.cells cells t)) (A:=A) (nm:=N.nm) (μ:=upd μ k w.heap.size) (H:=upd s.heap k (some (.rows sz rs false))) k 0 rs.length cap sz rs false (some ⟨w.heap.size,0,none⟩) (by simp) (by simp) (by omega)
  (.inr ⟨by simp,t,cells.size,by rw[upd_same];unfold World.shape?;rw[zbE],by simpa using hsize⟩)
 exact this.toV
theorem zmw (hI:I.Ok N) (R:Rel N c ns A μ lam s a w) {t el:TypeId} {n len:Nat} {ag:Bool} {z:List V} {parts:Array (Nat×Operand)} {ps:List (Nat×Opd)}
 (ht:P.underlying t=some (.slice el)) (hty:typ P el=some (ag,n)) (hz:zby P el=some z) (hzl:z.length=n) (hlen:len*n<=2^24)
 (hps:parts.toList.length=ps.length/\ ∀(i:Nat) (q:Nat×Opd),ps[i]? =some q-> ∃x,parts.toList[i]? =some x/\x.1=q.1/\opd I x.2=some q.2) (ho:o.op= .buildSlice t len parts)
 (hd: ∀x,o.dst=some x->x<ns) (hf:s.free o.dst e) (hk:s.heap (s.bas+p)=none) (hn:s.bas+p<s.nxt) (he:zv7 N.G p s (.bslice n len z ps)=some e):zca P N c ns o a w (s.apply o.dst e):=by
 simp only[zv7,zC,zB,zA]at he;obtain⟨rs,hrs,rfl⟩:=he;obtain⟨i,v,hi,hv,hc,hrun⟩:=zaX hz;obtain⟨inf,g1,g2,g3,g4⟩:=zaI hty;have hmap:(parts.map fun(i,x)=>(i,a.eval x)).toList=parts.toList.map fun x=>(x.1,a.eval x.2):=by simp
 have hnot: ¬(len*n>2^24):=by omega
 obtain⟨zero,hzero,hinit⟩: ∃zero:Array Value,zero=(if len*n=0 then #[]else v.cells)/\
  zal w A N.nm μ s.heap n ((Array.range (len*n)).map (zero[· % zero.size]!)).toList (List.replicate len z):=by
  by_cases h0:len*n=0
  ·refine⟨#[],by rw[if_pos h0],?_⟩;rcases Nat.mul_eq_zero.1 h0 with h | h
   ·subst h;simp;exact zal.nil
   ·subst h;refine⟨by simp,fun i row hr=> ?_,fun i row j x hr hj=> ?_⟩
    ·rw[List.getElem?_replicate]at hr;split at hr
     ·simp at hr;rw[<- hr,hzl]
     ·simp at hr
    ·rw[List.getElem?_replicate]at hr;split at hr
     ·simp at hr;subst hr;have:=List.length_eq_zero_iff.1 hzl;subst this;simp at hj
     ·simp at hr
  ·exact⟨v.cells,by rw[if_neg h0],zal.replicate (cellsOf_rep hc) hzl len _ rfl⟩
 obtain⟨cells',h1,h2,h3⟩:=zd6 hI R n parts.toList ps _ _ rs hps hinit hrs;simp only[List.length_replicate]at h3;subst h3;have hcl:cells'.size=rs.length*n:=by have:=h2.1;simpa using this
 refine⟨_,_,A,_,lam,.inl ?_,zsG R (t:=el) (cap:=rs.length) (d:=o.dst) (cells:=cells') hk hn h2 (by simp) (by rw[hcl];exact Nat.le_refl _) (Nat.le_refl _) hd hf⟩
 by_cases h0:rs.length*n=0
 ·rw[if_pos h0]at hzero;subst hzero;simp only[execOp,ho,Instr.buildSlice,Sem.run_bind,zag ht,Result.andThen_ok,zam g1,g2,hnot,if_false,hmap,newRow,Sem.run_pure];rw[if_pos h0];simp only[Sem.run_pure,Result.andThen_ok,h1,Sem.run_bind,run_newObj];rfl
 ·rw[if_neg h0]at hzero;subst hzero;simp only[execOp,ho,Instr.buildSlice,Sem.run_bind,zag ht,Result.andThen_ok,zam g1,g2,hnot,if_false,h0,hrun,hmap,h1,newRow,run_newObj,Sem.run_pure];rfl
theorem zfh {m:Int} (h0:0<=m) (h1:m<=2^32):IntKind.i64.wrap m=m:=by
 unfold IntKind.wrap;have e:m % (2^IntKind.i64.bits:Int)=m:=Int.emod_eq_of_lt h0 (by simp[IntKind.bits];omega);simp only[e];have : ¬(m>=(2^(IntKind.i64.bits-1):Int)):=by simp[IntKind.bits];omega
 simp[this]
theorem zkg (hI:I.Ok N) (R:Rel N c ns A μ lam s a w) {t el:TypeId} {n:Nat} {ag:Bool} {z:List V} {i:TypeInfo} {x y:Operand} {x' y':Opd}
 (hx:opd I x=some x') (hy:opd I y=some y') (ht:P.underlying t=some (.slice el)) (hty:typ P el=some (ag,n)) (hz:zby P el=some z) (hi:P.info? el=some i) (ho:o.op= .makeSlice t x y) (hn0:0<n)
 (hd: ∀x,o.dst=some x->x<ns) (hf:s.free o.dst e) (hk:s.heap (s.bas+p)=none) (hn:s.bas+p<s.nxt) (he:zv7 N.G p s (.mkslice n i.bytes z x' y')=some e):zca P N c ns o a w (s.apply o.dst e):=by
 simp only[zv7,zC,zB]at he;obtain⟨l,hl,m,hm,he⟩:=he;split at he
 ·rename_i hb;obtain⟨hb0,hb1,hb2,hb3,hzl⟩:=hb;simp only[zA]at he;subst he;obtain⟨kl,hkl⟩:=zbq hI R hx hl;obtain⟨km,hkm⟩:=zbq hI R hy hm;obtain⟨i',v,hi',hv,hc,hrun⟩:=zaX hz;obtain⟨inf,g1,g2,g3,g4⟩:=zaI hty;have hwl:=zfh hb0 (by omega:l<=2^32);have hwm:=zfh (by omega:(0:Int)<=m) hb2
  have hbig: ¬((i.bytes:Int)*m>2^48):=by
   have h1:(i.bytes:Int)*m<=2^12*2^32:=Int.mul_le_mul (by omega) hb2 (by omega) (by omega);omega
  obtain⟨zero,hzero,hinit⟩: ∃zero:Array Value,zero=(if m.toNat*n=0 then #[]else v.cells)/\
   zal w A N.nm μ s.heap n ((Array.range (m.toNat*n)).map (zero[· % zero.size]!)).toList (List.replicate m.toNat z):=by
   by_cases h0:m.toNat*n=0
   ·refine⟨#[],by rw[if_pos h0],?_⟩;rcases Nat.mul_eq_zero.1 h0 with h | h
    ·rw[h];simp;exact zal.nil
    ·omega
   ·exact⟨v.cells,by rw[if_neg h0],zal.replicate (cellsOf_rep hc) hzl m.toNat _ rfl⟩
  have hpre:=hinit.take l.toNat (by simp;omega)
  have htake:(List.replicate m.toNat z).take l.toNat=List.replicate l.toNat z:=by
   rw[List.take_replicate];congr 1;omega
  rw[htake]at hpre
  have hres:=zsG R (t:=el) (cap:=m.toNat) (d:=o.dst) (cells:=(Array.range (m.toNat*n)).map (zero[· % zero.size]!)) hk hn hpre (fun q v hq=>by
   rw[List.getElem?_take]at hq;split at hq
   ·rw[<- Array.getElem?_toList];exact hq
   ·simp at hq) (by simp) (by simp;omega) hd hf
  simp only[List.length_replicate]at hres;refine⟨_,_,A,_,lam,.inl ?_,hres⟩;have hcond:(decide (m<0)||decide ((i.bytes:Int)*m>2^48))=false:=by simp;omega
  have c1:decide (l<0)=false:=by simp;omega
  have c2:decide (l>m)=false:=by simp;omega
  by_cases h0:m.toNat*n=0
  ·rw[if_pos h0]at hzero;subst hzero;simp only[execOp,ho,Instr.makeSlice,Sem.run_bind,zag ht,Result.andThen_ok,hkl,hkm,asInt,asIntOf,Sem.run_pure,zdp hi,hwl,hwm,hcond,c1,c2,Bool.or_false,zG,if_false,run_askRoom,zam g1,g2,h0,if_true,newRow,run_newObj];rfl
  ·rw[if_neg h0]at hzero;subst hzero;simp only[execOp,ho,Instr.makeSlice,Sem.run_bind,zag ht,Result.andThen_ok,hkl,hkm,asInt,asIntOf,Sem.run_pure,zdp hi,hwl,hwm,hcond,c1,c2,Bool.or_false,zG,if_false,run_askRoom,zam g1,g2,h0,hrun,newRow,run_newObj];rfl
 ·simp at he
end
end Rg
end
section
namespace Rg
open Go
section
variable {P:Program} {w:World}
theorem ziA {t u el el' ty:TypeId} {i:TypeInfo} {base:Option Addr} {v:Value} {sLen sCap n sz:Nat} {new:Array Value} {w':World} (ht:P.underlying t=some (.slice el)) (hu:P.underlying u=some (.slice el'))
 (hi:P.info? el=some i) (hsz:i.size=sz) (hv: ∃ad cap,v= .slice ad n cap) (hle:sLen+n<=sCap) (hnew:(Builtin.firstCells sz n v).run P w= .ok new w)
 (hst: ∀ad,base=some ad->(storeCells (ad.add (sLen*sz)) new.toList).run P w= .ok () w') (hb:base=none->w'=w):
 (Builtin.append_ #[t,u] ty #[.slice base sLen sCap,v]).run P w= .ok (.slice base (sLen+n) sCap) w':=by
 obtain⟨ad,cap,rfl⟩:=hv
 cases base with
 | none=>
   have:=hb rfl;subst this
   simp[Builtin.append_,zag ht,zag hu,zam hi,hsz,Builtin.lenOf,hle,hnew]
 | some b=>
   simp[Builtin.append_,zag ht,zag hu,zam hi,hsz,Builtin.lenOf,hle,hnew,hst b rfl]
end
theorem zfa {α:Type} {as bs rs:List α} {i:Nat} {row:α} (has:as=rs.take as.length) (h:(appRows as bs rs)[i]? =some row):
 (i<as.length/\rs[i]? =some row)\/(as.length<=i/\i<as.length+bs.length/\bs[i-as.length]? =some row)\/(as.length+bs.length<=i/\rs[i]? =some row):=by
 have h1:(as++bs)[i]? =some row->(i<as.length/\rs[i]? =some row)\/(as.length<=i/\i<as.length+bs.length/\bs[i-as.length]? =some row):=by
  intro h;rw[List.getElem?_append]at h;split at h
  ·rename_i hlt;left;refine⟨hlt,?_⟩;have e:as[i]? =(rs.take as.length)[i]? :=congrArg (fun l=>l[i]?) has;rw[e,List.getElem?_take,if_pos hlt]at h;exact h
  ·rename_i hge;right;have:=(zH.1 h).1;exact⟨by omega,by omega,h⟩
 unfold appRows at h;split at h
 ·rcases h1 h with h | h
  ·exact .inl h
  ·exact .inr (.inl h)
 ·rw[List.getElem?_append]at h;split at h
  ·rcases h1 h with h | h
   ·exact .inl h
   ·exact .inr (.inl h)
  ·rename_i hge;rw[List.length_append]at hge h;rw[List.getElem?_drop]at h;exact .inr (.inr ⟨by omega,by rw[<- h];congr 1;omega⟩)
theorem zik {α:Type} (as bs rs:List α):as.length+bs.length<=(appRows as bs rs).length/\((appRows as bs rs).length=as.length+bs.length\/(appRows as bs rs).length=rs.length):=by
 unfold appRows;split
 ·rw[List.length_append];exact⟨Nat.le_refl _,.inl rfl⟩
 ·rw[List.length_append,List.length_append,List.length_drop];exact⟨by omega,.inr (by omega)⟩
theorem ziU (w:World) (need old:Nat) (e:TypeId):need<=grownCap w need old e:=by
 simp[grownCap,Question.cut]
section
variable {P:Program} {N:Nam} {I:Inv} {c:Ctx} {ns p:Nat} {A:Nat->Prop} {μ lam:Nat->Nat} {s:St} {a:Act} {w:World} {e:Eff} {o:Oper}
theorem zia {cl:Call} (ho:o.op= .call cl) (hb:cl.callee= .builtin .append):
 (execOp a.eval o).run P w=((Builtin.append_ cl.argTypes o.type (cl.args.map a.eval)).run P w).andThen fun v w'=> .ok (.value v) w':=by
 simp[execOp,ho,resolve,hb,invoke,builtin]
theorem zlD {cl:Call} (ho:o.op= .call cl) (hb:cl.callee= .builtin .copy):
 (execOp a.eval o).run P w=((Builtin.copy_ cl.argTypes o.type (cl.args.map a.eval)).run P w).andThen fun v w'=> .ok (.value v) w':=by
 simp[execOp,ho,resolve,hb,invoke,builtin]
theorem znl {cl:Call} (ho:o.op= .call cl) (hb:cl.callee= .builtin .max):
 (execOp a.eval o).run P w=((Builtin.max_ cl.argTypes o.type (cl.args.map a.eval)).run P w).andThen fun v w'=> .ok (.value v) w':=by
 simp[execOp,ho,resolve,hb,invoke,builtin]
theorem znk {cl:Call} (ho:o.op= .call cl) (hb:cl.callee= .builtin .min):
 (execOp a.eval o).run P w=((Builtin.min_ cl.argTypes o.type (cl.args.map a.eval)).run P w).andThen fun v w'=> .ok (.value v) w':=by
 simp[execOp,ho,resolve,hb,invoke,builtin]
theorem znm {cl:Call} (ho:o.op= .call cl) (hb:cl.callee= .builtin .len):
 (execOp a.eval o).run P w=((Builtin.len_ cl.argTypes o.type (cl.args.map a.eval)).run P w).andThen fun v w'=> .ok (.value v) w':=by
 simp[execOp,ho,resolve,hb,invoke,builtin]
theorem drew_cell (w:World): ∀ad,w.drew.cell? ad=w.cell? ad:=fun _=>rfl
theorem evo_drew (w:World) (A:Nat->Prop) (μ:Nat->Nat) (H:Nat->Option O):Evo w A μ H w.drew A μ H:=
 ⟨fun _ _=>rfl,fun _ h=>h,fun _ o h=>⟨o,h,O.le_refl o,fun _=>rfl⟩,fun _ _ h=>h⟩
theorem zmx (hI:I.Ok N) (R:Rel N c ns A μ lam s a w) {cl:Call} {t u el el':TypeId} {n:Nat} {ag:Bool} {i:TypeInfo} {x y:Operand} {x' y':Opd} {zl:List V}
 (hx:opd I x=some x') (hy:opd I y=some y') (ht:P.underlying t=some (.slice el)) (hu:P.underlying u=some (.slice el')) (hty:typ P el=some (ag,n)) (hi:P.info? el=some i) (hz:zby P el=some zl) (hzl:zl.length=n) (hn0:0<n)
 (ho:o.op= .call cl) (hb:cl.callee= .builtin .append) (hat:cl.argTypes= #[t,u]) (hag:cl.args= #[x,y])
 (hd: ∀x,o.dst=some x->x<ns) (hf:s.free o.dst e) (hk:s.heap (s.bas+p)=none) (hn:s.bas+p<s.nxt) (he:zv7 N.G p s (.append n i.bytes x' y')=some e):zca P N c ns o a w (s.apply o.dst e):=by
 have hex:=zia (P:=P) (w:=w) (a:=a) ho hb;rw[hat,hag]at hex;simp only[List.map_toArray,List.map_cons,List.map_nil]at hex;obtain⟨inf,g1,g2,g3,g4⟩:=zaI hty;rw[hi]at g1;cases g1;obtain⟨i',z,hi',hz0,hzc,hzrun⟩:=zaX hz;rw[hi]at hi';cases hi';have hzs:z.cells.size=n:=by have:=(cellsOf_rep (w:=w) (A:=A) (nm:=N.nm) (μ:=μ) (H:=s.heap) hzc).1;simp at this;omega
 simp only[zv7,zC,zB]at he;obtain⟨v1,hv1,v2,hv2,as,has,bs,hbs,he⟩:=he;split at he
 ·rename_i hc;obtain⟨⟨hc1,hc2⟩,hc3,hc4⟩:=hc;have r1:=opd_eval hI R hx hv1;have r2:=opd_eval hI R hy hv2;obtain⟨ad1,cap1,cs1,e1,l1,rr1,f1⟩:=zcn (P:=P) R r1 has hc4;obtain⟨ad2,cap2,cs2,e2,l2,rr2,f2⟩:=zcn (P:=P) R r2 hbs hc3;have t1: ∀{cs:List Value} {rs:List (List V)},cs.length=rs.length*n->cs.take (rs.length*n)=cs:=fun h=>by rw[<- h,List.take_length]
  rw[e1,e2]at hex;have F2:=f2 w (fun _=>rfl) bs.length (Nat.le_refl _);rw[t1 rr2.1,e2]at F2;have F1':=f1 w.drew (drew_cell w) as.length (Nat.le_refl _);rw[t1 rr1.1,e1]at F1';have F2':=f2 w.drew (drew_cell w) bs.length (Nat.le_refl _);rw[t1 rr2.1,e2]at F2';split at he
  ·rename_i hemp;simp only[zA]at he;subst he;have hbe:bs=[]:=by simpa using hemp
   subst hbe;have hcs2:cs2=[]:=List.length_eq_zero_iff.1 (by simpa using rr2.1);subst hcs2;refine⟨a.eval x,w,A,μ,lam,.inl ?_,R.put o.dst _ _ hd hf rfl rfl rfl r1 (by simp)⟩;rw[hex,ziA (w':=w) ht hu hi g2 ⟨_,_,rfl⟩ (by simpa using l1) F2 (fun ad _=>by simp[storeCells]) (fun _=>rfl),e1];simp
  ·rename_i hemp
   have hbl:0<bs.length:=by
    cases bs with
    | nil=>simp at hemp
    | cons b l=>simp
   -- a new block,whatever was there
   have grow: ¬(as.length+bs.length<=cap1)-> ∀(s1:St) (_:Rel N c ns A μ lam s1 a w),s1.heap (s.bas+p)=none->s.bas+p<s1.nxt->s1.free o.dst {}->
    zal w A N.nm μ s1.heap n (cs1++cs2) (as++bs)->
    zca P N c ns o a w (s1.apply o.dst { val:=.ms (s.bas+p) 0 (as++bs).length,hp:=[(s.bas+p,.rows n (as++bs) false)] }):=by
    intro hgt s1 hs1 hk1 hn1 hf1 hrows
    have src:Src P i.size u (.slice ad2 bs.length cap2) bs.length cs2 w:=
     ⟨.inl ⟨el',hu⟩,fun _=>rfl,by rw[g2];exact F2,by rw[g2];exact F2',by rw[g2];exact rr2.1,rr2.one hn0⟩
    have hneed:as.length+bs.length<=2^32:=hc1
    have hfit:Builtin.nextslicecap (as.length+bs.length) cap1*i.bytes<=281474976710656:=by
     refine growslice_fits (by omega) ?_;have:=Nat.mul_le_mul hneed hc2;omega
    have hrun:=run_append_grow_src (P:=P) w t u o.type el i z ht hi hz0 ad1 as.length cap1 cs1 (by rw[g2];exact F1') (.slice ad2 bs.length cap2) bs.length cs2 src (by omega) (by omega) hfit;have hlen:(as++bs).length=as.length+bs.length:=by simp
    have hcslen:(cs1++cs2).length=(as.length+bs.length)*n:=by rw[hrows.1,hlen]
    have hcap:=ziU w (as.length+bs.length) cap1 el;rw[hrun]at hex
    have hres:=zsG (hs1.drew) (t:=el) (cap:=grownCap w (as.length+bs.length) cap1 el) (d:=o.dst)
     (cells:=(cs1++cs2).toArray++Builtin.zeroCells z.cells (grownCap w (as.length+bs.length) cap1 el-(as.length+bs.length))) hk1 hn1 (hrows.evo (evo_drew w A μ s1.heap)) (fun q v hq=>by
       rw[Array.getElem?_append_left (by simpa using(zH.1 hq).1)]
       simpa using hq) (by
       rw[Array.size_append]
       have e3:(Builtin.zeroCells z.cells (grownCap w (as.length+bs.length) cap1 el-(as.length+bs.length))).size=(grownCap w (as.length+bs.length) cap1 el-(as.length+bs.length))*n:=by
        simp[Builtin.zeroCells,hzs]
       rw[e3];have e4:(cs1++cs2).toArray.size=(as.length+bs.length)*n:=by simpa using hcslen
       rw[e4,<- Nat.add_mul]
       exact Nat.mul_le_mul_right _ (by omega)) (by rw[hlen];exact hcap) hd hf1
    rw[hlen]at hres⊢;exact⟨_,_,A,_,lam,.inl hex,hres⟩
   split at he
   ·simp only[zA]at he;subst he;simp only[zbs,zA]at has;subst has
    have hc0:cap1=0:=by
     rw[e1]at r1;obtain⟨_,h⟩:=r1.t_inv.nils_inv;cases h;rfl
    have:=grow (by simp;omega) s R hk hn hf (rr1.append rr2);simpa using this
   ·-- a clipped slice:a new block that is never written again
    rename_i es;simp only[zB,zA]at he;obtain⟨ts,hts,rfl⟩:=he
    have hc0:cap1=as.length:=by
     rw[e1]at r1;simp only[zbs,zA]at has;have h2:=RepT.slc_inv r1.t_inv;rw[<- has,List.length_map];exact h2.2
    have hgt: ¬(as.length+bs.length<=cap1):=by omega
    have hrows:=rr1.append rr2
    have src:Src P i.size u (.slice ad2 bs.length cap2) bs.length cs2 w:=
     ⟨.inl ⟨el',hu⟩,fun _=>rfl,by rw[g2];exact F2,by rw[g2];exact F2',by rw[g2];exact rr2.1,rr2.one hn0⟩
    have hneed:as.length+bs.length<=2^32:=hc1
    have hfit:Builtin.nextslicecap (as.length+bs.length) cap1*i.bytes<=281474976710656:=by
     refine growslice_fits (by omega) ?_;have:=Nat.mul_le_mul hneed hc2;omega
    have hrun:=run_append_grow_src (P:=P) w t u o.type el i z ht hi hz0 ad1 as.length cap1 cs1 (by rw[g2];exact F1') (.slice ad2 bs.length cap2) bs.length cs2 src (by omega) (by omega) hfit;rw[hrun]at hex;have hcap:=ziU w (as.length+bs.length) cap1 el;have hrows2:=hrows.evo (evo_drew w A μ s.heap);have Rd:=R.drew
    generalize grownCap w (as.length+bs.length) cap1 el=gc at hex hcap
    generalize Builtin.zeroCells z.cells (gc-(as.length+bs.length))=zc at hex
    have hsz:w.drew.heap.size=w.heap.size:=rfl
    generalize w.drew=wd at hex hrows2 Rd hsz
    have hE:=evo_alloc Rd (.cells ((cs1++cs2).toArray++zc) el);have hnew:=zbE wd (.cells ((cs1++cs2).toArray++zc) el);have hsz1:(wd.alloc (.cells ((cs1++cs2).toArray++zc) el)).heap.size=wd.heap.size+1:=by simp only[World.alloc,Array.size_push]
    have R1:=Rd.alloc (.cells ((cs1++cs2).toArray++zc) el)
    have R2:=R1.growA (fun q=>q=wd.heap.size) (fun q hq t ht=>by have:=Rd.lt_loc ht;omega)
     (fun q hq k o hk hl=>by have:=Rd.lt_live hk hl;omega)
     (fun q hq=> .inr (by have:=Rd.csize;omega)) (fun q hq=>by omega) (Rd.defers.join R1.defers (fun q hq=>by omega))
    obtain⟨m1,m2⟩:=zaw hts;have hbl':0<ts.length:=by rw[<- m1,List.length_append];omega
    have htl:ts.length=as.length+bs.length:=by rw[<- m1,List.length_append]
    have hfin:RepV (wd.alloc (.cells ((cs1++cs2).toArray++zc) el)) (fun r=>A r\/r=wd.heap.size) N.nm μ s.heap (.slice (some ⟨w.heap.size,0,none⟩) (as.length+bs.length) gc) (.t (.sl ts)):=by
     have hE2:=hE.blk;have hrow: ∀(i1:Nat) (tr:List T),ts[i1]? =some tr-> ∃row,(as++bs)[i1]? =some row/\trees row=some tr:=fun i1 tr h1=>m2 i1 tr h1
     have htr: ∀(row:List V) (tr:List T),trees row=some tr->tr.length=row.length/\ ∀(j:Nat) (y:T),tr[j]? =some y-> ∃y0,row[j]? =some (.t y0)/\y=y0.norm:=by
      intro row
      induction row with
      | nil=>intro tr h1;simp[trees]at h1;subst h1;exact⟨rfl,fun j y h=>by simp at h⟩
      | cons v1 row ih=>
        intro tr h1;cases v1<;>simp only[trees,reduceCtorEq]at h1
        rename_i y0;rw[zE]at h1;obtain⟨tr',h2,rfl⟩:=h1;obtain⟨h3,h4⟩:=ih tr' h2;refine⟨by simp[h3],fun j y hj=> ?_⟩
        cases j with
        | zero=>simp at hj;exact⟨y0,rfl,hj.symm⟩
        | succ j=>simpa using h4 j y (by simpa using hj)
     have hlen: ∀(i1:Nat) (tr:List T),ts[i1]? =some tr->tr.length=n:=fun i1 tr h1=>by
      obtain⟨row,h2,h3⟩:=hrow i1 tr h1;rw[(htr row tr h3).1];exact hrows2.2.1 i1 row h2
     have hget: ∀(i1:Nat) (tr:List T) (j:Nat) (y:T),ts[i1]? =some tr->tr[j]? =some y-> ∃v,(cs1++cs2)[i1*n+j]? =some v/\RepT wd A N.nm v y:=fun i1 tr j y h1 h4=>by
      obtain⟨row,h2,h3⟩:=hrow i1 tr h1;obtain⟨y0,h5,rfl⟩:=(htr row tr h3).2 j y h4;obtain⟨v,h6,h7⟩:=hrows2.2.2 i1 row j _ h2 h5
      cases h7 with
      | t h8=>exact⟨v,h6,h8.norm⟩
     have key:=RepT.sl (w:=wd.alloc (.cells ((cs1++cs2).toArray++zc) el)) (A:=fun r=>A r\/r=wd.heap.size) (nm:=N.nm) wd.heap.size 0 gc n ts
      (fun i1 j=>((cs1++cs2)[i1*n+j]?).getD default) hbl' (by rw[htl];exact hcap) (.inr rfl) hlen ?_ ?_
     ·rw[htl]at key;rw[<- hsz];exact(RepC.t key).toV
     ·intro i1 tr j y h1 h2;obtain⟨v,h3,_⟩:=hget i1 tr j y h1 h2;rw[h3];simp only[World.cell?,hnew,Nat.zero_add,Option.getD_some];rw[Array.getElem?_append_left (by simpa using(zH.1 h3).1)];simpa using h3
     ·intro i1 tr j y h1 h2;obtain⟨v,h3,h4⟩:=hget i1 tr j y h1 h2;rw[h3,Option.getD_some];exact h4.mono hE2 (fun _ h=> .inl h)
    exact⟨_,_,_,μ,lam,.inl hex,R2.put o.dst _ _ hd hf rfl rfl rfl hfin (by simp)⟩
   ·rename_i k j ll;split at he
    ·rename_i sz' rs hkk;split at he
     ·rename_i hcc;obtain⟨rfl,rfl⟩:=hcc;simp only[zA]at he;subst he;have hkne:s.bas+p≠k:=by intro h;rw[h]at hk;simp[hkk]at hk
      have hE:Evo w A μ s.heap w A μ (upd s.heap k (some .dead)):=by
       refine⟨fun _ _=>rfl,fun _ h=>h,fun k1 o1 h=> ?_,fun _ _ h=>h⟩
       by_cases e:k1=k
       ·subst e;exact⟨.dead,by simp,by cases o1<;>trivial,fun _=>rfl⟩
       ·exact⟨o1,by rw[zaa _ _ e];exact h,O.le_refl o1,fun _=>rfl⟩
      have hk1:(upd s.heap k (some .dead)) (s.bas+p)=none:=by rw[zaa _ _ hkne];exact hk
      have hcap1:rs.length<=cap1:=by
       rw[e1]at r1
       cases(r1:RepC w A N.nm μ s.heap _ _)with
       | ms _ _ _ _ sz2 rs2 frz2 _ hk' hi' hc' ha=>rw[hkk]at hk';cases hk';omega
       | dms _ _ _ hk'=>rw[hkk]at hk';cases hk'
      by_cases hroom:as.length+bs.length<=cap1
      ·-- in place
       rw[e1]at r1
       have hasl:as.length=ll/\as=rs.take ll:=by
        simp only[zbs,hkk,rd]at has;split at has
        ·simp only[List.drop_zero,zA]at has;subst has;exact⟨by simp;omega,rfl⟩
        ·simp at has
       obtain⟨cc,e0,zz,h1,h2,h3,h4,h5⟩:=R.heap k _ hkk;have hz1:=h2 rfl;subst hz1
       obtain⟨hadr,hcapb⟩:ad1=some ⟨μ k,0,none⟩/\cap1*sz'<=cc.size:=by
        cases(r1:RepC w A N.nm μ s.heap _ _)with
        | ms _ _ _ _ sz2 rs2 frz2 _ hk' hi' hc' ha=>
          rw[hkk]at hk';cases hk';obtain⟨rfl,e3,n3,hs3,hn3⟩:=ha.resolve_left (by omega);simp only[World.shape?,h1,zA,Prod.mk.injEq]at hs3;obtain⟨_,rfl⟩:=hs3
          exact⟨by simp,by simpa using hn3⟩
        | dms _ _ _ hk'=>rw[hkk]at hk';cases hk'
       subst hadr;have hcs2:=rr2.1
       have hfit:as.length*sz'+0+cs2.length<=cc.size:=by
        rw[hcs2,Nat.add_zero,<- Nat.add_mul];exact Nat.le_trans (Nat.mul_le_mul_right _ hroom) hcapb
       have hst:=run_storeCells_at P (μ k) (as.length*sz') e0 cs2 0 cc w h1 hfit (rr2.one hn0)
       let arr:Array Value:=(cc.toList.take (as.length*sz'+0)++cs2++cc.toList.drop (as.length*sz'+0+cs2.length)).toArray
       have harr:wr cc.toList (as.length*sz') cs2=some arr.toList:=by
        unfold wr;rw[if_pos (by simpa using hfit)];simp[arr]
       obtain⟨j1,j2,j3⟩:=zcu harr;have hsz2:arr.size=cc.size:=by simpa using j2
       have R1:=R.kill hkk;have orph:=R.orphan_kill hkk rfl (by simp);have R2:=R1.setOrphan orph h1 hsz2
       have hE2:Evo w A μ (upd s.heap k (some .dead)) (w.setRow (μ k) arr) A μ (upd s.heap k (some .dead)):=
        ⟨fun r hr=>setRow_other w _ r _ (fun e=>orph.a (e▸hr)),fun _ h=>h,fun _ o h=>⟨o,h,O.le_refl o,fun _=>rfl⟩,shape?_setRow h1 hsz2⟩
       have has':as=rs.take as.length:=by rw[hasl.1];exact hasl.2
       obtain⟨al1,al2⟩:=zik as bs rs
       have hobj:zjX (w.setRow (μ k) arr) A N μ (upd s.heap k (some .dead)) (μ k) (.rows sz' (appRows as bs rs) false):=by
        have hrowl: ∀(i1:Nat) (row:List V),(appRows as bs rs)[i1]? =some row->row.length=sz':=by
         intro i1 row hi1;rcases zfa has' hi1 with⟨_,h⟩ | ⟨_,_,h⟩ | ⟨_,h⟩
         ·exact h4 _ row h
         ·exact rr2.2.1 _ row h
         ·exact h4 _ row h
        refine⟨arr,e0,(0,0),setRow_heap w _ cc arr e0 _ h1,fun _=>rfl,?_,hrowl,?_⟩
        ·rw[hsz2];rcases al2 with al2 | al2
         ·rw[al2];exact Nat.le_trans (Nat.mul_le_mul_right _ hroom) hcapb
         ·rw[al2];exact h3
        ·intro i1 row j x hi1 hj;have hrl:=hrowl i1 row hi1;have hjl:j<sz':=by rw[<- hrl];exact(zH.1 hj).1
         have hget:arr[i1*sz'+j]? =arr.toList[i1*sz'+j]? :=by rw[Array.getElem?_toList]
         rw[hget,j3];rcases zfa has' hi1 with⟨hlt,hi2⟩ | ⟨hge,hlt,hi2⟩ | ⟨hge,hi2⟩
         ·have:=row_lt hlt hjl;rw[if_neg (by omega)];obtain⟨v,hv,hr⟩:=h5 i1 row j x hi2 hj;exact⟨v,by simpa using hv,(hr.evo hE).evo hE2⟩
         ·have hil:i1-as.length<bs.length:=(zH.1 hi2).1;have e5:i1*sz'=as.length*sz'+(i1-as.length)*sz':=by rw[<- Nat.add_mul];congr 1;omega
          have:=row_lt hil hjl;rw[if_pos (by rw[hcs2];omega)];obtain⟨v,hv,hr⟩:=rr2.2.2 _ row j x hi2 hj;refine⟨v,?_,(hr.evo hE).evo hE2⟩;have e6:i1*sz'+j-as.length*sz'=(i1-as.length)*sz'+j:=by omega
          rw[e6];exact hv
         ·have:=Nat.mul_le_mul_right sz' hge;rw[Nat.add_mul]at this;rw[if_neg (by rw[hcs2];omega)];obtain⟨v,hv,hr⟩:=h5 i1 row j x hi2 hj;exact⟨v,by simpa using hv,(hr.evo hE).evo hE2⟩
       have R3:=R2.adoptH (k:=s.bas+p) hk1 hn orph hobj (by simp)
       have hrun:=ziA (P:=P) (ty:=o.type) (w':=w.setRow (μ k) arr) ht hu hi g2 ⟨ad2,cap2,rfl⟩ hroom F2 (base:=some ⟨μ k,0,none⟩) (fun ad h=>by
        cases h;rw[za1,Nat.zero_add]
        exact hst) (fun h=>by simp at h)
       rw[hrun]at hex;refine⟨_,_,A,_,lam,.inl hex,R3.put o.dst { val:=.ms (s.bas+p) 0 (as.length+bs.length) } _ hd hf rfl rfl rfl ?_ (by simp)⟩
       have hshape:(w.setRow (μ k) arr).shape? (μ k)=some (e0,cc.size):=by
        unfold World.shape?;rw[setRow_heap w _ cc arr e0 _ h1];simp[hsz2]
       have:=RepC.ms (w:=w.setRow (μ k) arr) (A:=A) (nm:=N.nm) (μ:=upd μ (s.bas+p) (μ k)) (H:=upd (upd s.heap k (some .dead)) (s.bas+p) (some (.rows sz' (appRows as bs rs) false))) (s.bas+p) 0 (as.length+bs.length) cap1 sz' (appRows as bs rs) false
        (some ⟨μ k,0,none⟩) (by simp) (by omega) (by rcases al2 with al2 | al2<;>omega) (.inr ⟨by simp,e0,cc.size,by simpa using hshape,by simpa using hcapb⟩)
       exact this.toV
      ·have:=grow hroom { s with heap:=upd s.heap k (some .dead) } (R.kill hkk) hk1 hn hf ((rr1.append rr2).evo hE);rw[List.length_append]at this;rw[show appRows as bs rs=as++bs from if_pos (by omega)];exact this
     ·simp at he
    ·simp at he
   ·simp at he
 ·simp at he
theorem zpK (hI:I.Ok N) (R:Rel N c ns A μ lam s a w) {cl:Call} {t u el:TypeId} {n:Nat} {ag:Bool} {x y:Operand} {x' y':Opd}
 (hx:opd I x=some x') (hy:opd I y=some y') (ht:P.underlying t=some (.slice el)) (hty:typ P el=some (ag,n)) (hn0:0<n)
 (ho:o.op= .call cl) (hb:cl.callee= .builtin .copy) (hat:cl.argTypes= #[t,u]) (hag:cl.args= #[x,y])
 (hd: ∀x,o.dst=some x->x<ns) (hf:s.free o.dst e) (he:zv7 N.G p s (.copy n x' y')=some e):zca P N c ns o a w (s.apply o.dst e):=by
 have hex:=zlD (P:=P) (w:=w) (a:=a) ho hb;rw[hat,hag]at hex;simp only[List.map_toArray,List.map_cons,List.map_nil]at hex;obtain⟨inf,g1,g2,g3,g4⟩:=zaI hty;simp only[zv7,zC,zB]at he;obtain⟨v1,hv1,v2,hv2,bs,hbs,he⟩:=he;have r1:=opd_eval hI R hx hv1;have r2:=opd_eval hI R hy hv2
 obtain⟨ad2,cap2,e2⟩: ∃ad cap,a.eval y= .slice ad bs.length cap:=by
  refine r2.len_inv ?_;unfold zbs at hbs;unfold lenOf;split at hbs
  ·simp only[zA]at hbs;subst hbs;rfl
  ·simp only[zA]at hbs;subst hbs;simp
  ·simp only[zA]at hbs;subst hbs;simp
  ·split at hbs
   ·unfold rd at hbs;split at hbs
    ·simp only[zA]at hbs;subst hbs;simp;omega
    ·simp at hbs
   ·simp at hbs
  ·simp at hbs
 have hzero: ∀w:World,(Builtin.firstCells n 0 (a.eval y)).run P w= .ok #[] w:=by
  intro w;rw[e2]
  cases ad2 with
  | none=>simp[Builtin.firstCells]
  | some ad=>simp[Builtin.firstCells,loadCells,loadCellsFrom]
 split at he
 ·simp only[zA]at he;subst he;obtain⟨ad1,e1⟩:=r1.t_inv.nils_inv;refine⟨goInt 0,w,A,μ,lam,.inl ?_,R.put o.dst _ _ hd hf rfl rfl rfl (RepC.t (.int _ _)).toV (by simp)⟩;rw[hex];have hz':=hzero w;rw[e2]at hz';rw[e1,e2]
  cases ad1 with
  | none=>simp[Builtin.copy_,zag ht,Builtin.lenOf,zam g1,g2,hz']
  | some ad=>simp[Builtin.copy_,zag ht,Builtin.lenOf,zam g1,g2,hz',storeCells]
 ·rename_i k i len;split at he
  ·rename_i sz' rs hkk;split at he
   ·rename_i hcc;obtain⟨rfl,hall⟩:=hcc;simp only[zB,zA]at he;obtain⟨rs',hw,rfl⟩:=he;obtain⟨ad2',cap2',cs2,e2',l2,rr2,f2⟩:=zcn (P:=P) R r2 hbs hall;obtain⟨cc,e0,zz,h1,h2,h3,h4,h5⟩:=R.heap k _ hkk;have hz1:=h2 rfl;subst hz1;obtain⟨q1,q2,q3⟩:=zcu hw
    obtain⟨base,cap,e1,hbase⟩: ∃base cap,a.eval x= .slice base len cap/\(0<len->base=some ⟨μ k,i*sz',none⟩):=by
     generalize a.eval x=v at r1
     cases(r1:RepC w A N.nm μ s.heap v _)with
     | ms _ _ _ cap sz2 rs2 frz2 ad hk' hi' hc' ha=>
       rw[hkk]at hk';cases hk';refine⟨ad,cap,rfl,fun hl=> ?_⟩
       exact(ha.resolve_left (by omega)).1
     | dms _ _ _ hk'=>rw[hkk]at hk';cases hk'
    have hmin:min bs.length len<=bs.length:=Nat.min_le_left _ _;have F2:=f2 w (fun _=>rfl) (min bs.length len) hmin;have htl:(bs.take len).length=min bs.length len:=by simp[Nat.min_comm]
    have hpre:(cs2.take (min bs.length len*sz')).length=min bs.length len*sz':=by
     rw[List.length_take,rr2.1];exact Nat.min_eq_left (Nat.mul_le_mul_right _ hmin)
    have hfit:i*sz'+0+(cs2.take (min bs.length len*sz')).length<=cc.size:=by
     rw[hpre,Nat.add_zero,<- Nat.add_mul];refine Nat.le_trans (Nat.mul_le_mul_right _ ?_) h3;rw[<- htl];exact q1
    have hst:=run_storeCells_at P (μ k) (i*sz') e0 (cs2.take (min bs.length len*sz')) 0 cc w h1 hfit (fun v hv=>rr2.one hn0 v (List.mem_of_mem_take hv))
    let arr:Array Value:=(cc.toList.take (i*sz'+0)++cs2.take (min bs.length len*sz')++cc.toList.drop (i*sz'+0+(cs2.take (min bs.length len*sz')).length)).toArray
    have harr:wr cc.toList (i*sz') (cs2.take (min bs.length len*sz'))=some arr.toList:=by
     unfold wr;rw[if_pos (by simpa using hfit)];simp[arr]
    obtain⟨j1,j2,j3⟩:=zcu harr;have hsz2:arr.size=cc.size:=by simpa using j2
    have R1:=R.changeH (o':= .rows sz' rs' false) (w':=w.setRow (μ k) arr) hkk ⟨rfl,q2⟩ rfl (by simp) (by simp) rfl (by simp) (fun r hr=>setRow_other w _ r _ hr)
     (shape?_setRow h1 hsz2) (fun E=>by
       refine⟨arr,e0,(0,0),setRow_heap w _ cc arr e0 _ h1,fun _=>rfl,by rw[hsz2,q2];exact h3,?_,?_⟩
       ·intro i1 row hr1;rw[q3 i1]at hr1;split at hr1
        ·rw[List.getElem?_take]at hr1;split at hr1
         ·exact rr2.2.1 _ row hr1
         ·simp at hr1
        ·exact h4 i1 row hr1
       ·intro i1 row j x hr1 hj;have hget:arr[i1*sz'+j]? =arr.toList[i1*sz'+j]? :=by rw[Array.getElem?_toList]
        rw[hget,j3];rw[q3 i1]at hr1;split at hr1
        ·rename_i hin;rw[List.getElem?_take]at hr1;split at hr1
         ·rename_i hlt;have hjl:j<sz':=by rw[<- rr2.2.1 _ row hr1];exact(zH.1 hj).1
          have hb1:i1-i<min bs.length len:=by rw[htl]at hin;omega
          have:=row_lt hb1 hjl;have e5:i1*sz'=i*sz'+(i1-i)*sz':=by rw[<- Nat.add_mul];congr 1;omega
          rw[if_pos (by rw[hpre];omega)];obtain⟨v,hv,hr⟩:=rr2.2.2 _ row j x hr1 hj;refine⟨v,?_,hr.evo E⟩;have e6:i1*sz'+j-i*sz'=(i1-i)*sz'+j:=by omega
          rw[e6,List.getElem?_take,if_pos this];exact hv
         ·simp at hr1
        ·rename_i hin;have hjl:j<sz':=by rw[<- h4 _ row hr1];exact(zH.1 hj).1
         obtain⟨v,hv,hr⟩:=h5 i1 row j x hr1 hj;rw[if_neg]
         ·exact⟨v,by simpa using hv,hr.evo E⟩
         ·rw[hpre];intro hh;rw[htl]at hin;rcases Nat.lt_or_ge i1 i with hlt | hge
          ·have:=Nat.mul_le_mul_right sz' (Nat.succ_le_of_lt hlt);rw[Nat.succ_mul]at this;omega
          ·have hge2:i+min bs.length len<=i1:=by omega
           have:=Nat.mul_le_mul_right sz' hge2
           rw[Nat.add_mul]at this;omega)
    have hnone:base=none->w.setRow (μ k) arr=w:=by
     intro hb0
     have hl0:len=0:=by
      rcases Nat.eq_zero_or_pos len with h | h
      ·exact h
      ·rw[hbase h]at hb0;simp at hb0
     subst hl0
     have:arr=cc:=by
      apply Array.ext';simp[arr]
     rw[this];exact setRow_self w _ cc e0 _ h1
    refine⟨goInt (min bs.length len:Nat),w.setRow (μ k) arr,A,μ,lam,.inl ?_,R1.put o.dst { val:=.t (.int .i64 (min bs.length len:Nat)) } _ hd hf rfl rfl rfl (RepC.t (.int _ _)).toV (by simp)⟩;rw[hex,e1];rw[e2]at F2⊢
    cases base with
    | none=>
      rw[hnone rfl];simp only[Builtin.copy_,List.getElem?_toArray,List.getElem?_cons_zero,List.getElem?_cons_succ,Sem.run_bind,zag ht,Result.andThen_ok,Builtin.lenOf,Sem.run_pure,zam g1,g2];rw[show Nat.min bs.length len=min bs.length len from rfl,F2]
      rfl
    | some ad=>
      rcases Nat.eq_zero_or_pos len with hl | hl
      ·subst hl
       have harr0:w.setRow (μ k) arr=w:=by
        have:arr=cc:=by
         apply Array.ext';simp[arr]
        rw[this];exact setRow_self w _ cc e0 _ h1
       rw[harr0];simp only[Builtin.copy_,List.getElem?_toArray,List.getElem?_cons_zero,List.getElem?_cons_succ,Sem.run_bind,zag ht,Result.andThen_ok,Builtin.lenOf,Sem.run_pure,zam g1,g2];rw[show Nat.min bs.length 0=min bs.length 0 from rfl,F2];simp[storeCells]
      ·have:=hbase hl;cases this;simp only[Builtin.copy_,List.getElem?_toArray,List.getElem?_cons_zero,List.getElem?_cons_succ,Sem.run_bind,zag ht,Result.andThen_ok,Builtin.lenOf,Sem.run_pure,zam g1,g2];rw[show Nat.min bs.length len=min bs.length len from rfl,F2];simp only[Result.andThen_ok];rw[hst];rfl
   ·simp at he
  ·simp at he
 ·simp at he
theorem zjF {cl:Call} (ho:o.op= .call cl) (hb:cl.callee= .builtin .clear):
 (execOp a.eval o).run P w=((Builtin.clear_ cl.argTypes o.type (cl.args.map a.eval)).run P w).andThen fun v w'=> .ok (.value v) w':=by
 simp[execOp,ho,resolve,hb,invoke,builtin]
theorem zoi (hI:I.Ok N) (R:Rel N c ns A μ lam s a w) {cl:Call} {t el:TypeId} {n:Nat} {ag:Bool} {x:Operand} {x':Opd} {z:List V}
 (hx:opd I x=some x') (ht:P.underlying t=some (.slice el)) (hty:typ P el=some (ag,n)) (hn0:0<n) (hz:zby P el=some z) (hzl:z.length=n)
 (ho:o.op= .call cl) (hb:cl.callee= .builtin .clear) (hat:cl.argTypes= #[t]) (hag:cl.args= #[x])
 (hd: ∀x,o.dst=some x->x<ns) (hf:s.free o.dst e) (he:zv7 N.G p s (.clear n z x')=some e):zca P N c ns o a w (s.apply o.dst e):=by
 have hex:=zjF (P:=P) (w:=w) (a:=a) ho hb;rw[hat,hag]at hex;simp only[List.map_toArray,List.map_cons,List.map_nil]at hex;obtain⟨i',zv,hi',hz0,hzc,hzrun⟩:=zaX hz;have hzs:zv.cells.size=n:=by have:=(cellsOf_rep (w:=w) (A:=A) (nm:=N.nm) (μ:=μ) (H:=s.heap) hzc).1;simp at this;omega
 simp only[zv7,zC,zB]at he;obtain⟨v1,hv1,he⟩:=he;have r1:=opd_eval hI R hx hv1;split at he
 ·simp only[zA]at he;subst he;obtain⟨ad1,e1⟩:=r1.t_inv.nils_inv;refine⟨.tuple #[],w,A,μ,lam,.inl ?_,R.put o.dst _ _ hd hf rfl rfl rfl ⟨#[],rfl,rfl,by simp⟩ (by simp)⟩;rw[hex,e1];cases ad1<;>simp[Builtin.clear_,zag ht]
 ·rename_i k i len;split at he
  ·rename_i sz' rs hkk;split at he
   ·rename_i hcc;obtain⟨hsz',_⟩:=hcc;subst hsz';simp only[zB,zA]at he;obtain⟨rs',hw,rfl⟩:=he;obtain⟨cc,e0,zz,h1,h2,h3,h4,h5⟩:=R.heap k _ hkk;have hz1:=h2 rfl;subst hz1;obtain⟨q1,q2,q3⟩:=zcu hw
    obtain⟨base,cap,e1,hbase⟩: ∃base cap,a.eval x= .slice base len cap/\(0<len->base=some ⟨μ k,i*sz',none⟩):=by
     generalize a.eval x=v at r1
     cases(r1:RepC w A N.nm μ s.heap v _)with
     | ms _ _ _ cap sz2 rs2 frz2 ad hk' hi' hc' ha=>
       rw[hkk]at hk';cases hk';refine⟨ad,cap,rfl,fun hl=> ?_⟩
       exact(ha.resolve_left (by omega)).1
     | dms _ _ _ hk'=>rw[hkk]at hk';cases hk'
    have rr2:zal w A N.nm μ s.heap sz' (Builtin.zeroCells zv.cells len).toList (List.replicate len z):=zal.replicate (cellsOf_rep hzc) hzl len _ (by rw[hzs])
    generalize hcs:(Builtin.zeroCells zv.cells len).toList=cs2 at rr2
    have hcl:cs2.length=len*sz':=by rw[rr2.1];simp
    simp only[List.length_replicate]at q1 q3
    have hfit:i*sz'+0+cs2.length<=cc.size:=by
     rw[hcl,Nat.add_zero,<- Nat.add_mul];exact Nat.le_trans (Nat.mul_le_mul_right _ q1) h3
    have hst:=run_storeCells_at P (μ k) (i*sz') e0 cs2 0 cc w h1 hfit (rr2.one hn0)
    let arr:Array Value:=(cc.toList.take (i*sz'+0)++cs2++cc.toList.drop (i*sz'+0+cs2.length)).toArray
    have harr:wr cc.toList (i*sz') cs2=some arr.toList:=by
     unfold wr;rw[if_pos (by simpa using hfit)];simp[arr]
    obtain⟨j1,j2,j3⟩:=zcu harr;have hsz2:arr.size=cc.size:=by simpa using j2
    have R1:=R.changeH (o':= .rows sz' rs' false) (w':=w.setRow (μ k) arr) hkk ⟨rfl,q2⟩ rfl (by simp) (by simp) rfl (by simp) (fun r hr=>setRow_other w _ r _ hr)
     (shape?_setRow h1 hsz2) (fun E=>by
       refine⟨arr,e0,(0,0),setRow_heap w _ cc arr e0 _ h1,fun _=>rfl,by rw[hsz2,q2];exact h3,?_,?_⟩
       ·intro i1 row hr1;rw[q3 i1]at hr1;split at hr1
        ·exact rr2.2.1 _ row hr1
        ·exact h4 i1 row hr1
       ·intro i1 row j x hr1 hj;have hget:arr[i1*sz'+j]? =arr.toList[i1*sz'+j]? :=by rw[Array.getElem?_toList]
        rw[hget,j3];rw[q3 i1]at hr1;split at hr1
        ·rename_i hin;have hjl:j<sz':=by rw[<- rr2.2.1 _ row hr1];exact(zH.1 hj).1
         have hb1:i1-i<len:=by omega
         have:=row_lt hb1 hjl;have e5:i1*sz'=i*sz'+(i1-i)*sz':=by rw[<- Nat.add_mul];congr 1;omega
         rw[if_pos (by rw[hcl];omega)];obtain⟨v,hv,hr⟩:=rr2.2.2 _ row j x hr1 hj;refine⟨v,?_,hr.evo E⟩;have e6:i1*sz'+j-i*sz'=(i1-i)*sz'+j:=by omega
         rw[e6];exact hv
        ·rename_i hin;have hjl:j<sz':=by rw[<- h4 _ row hr1];exact(zH.1 hj).1
         obtain⟨v,hv,hr⟩:=h5 i1 row j x hr1 hj;rw[if_neg]
         ·exact⟨v,by simpa using hv,hr.evo E⟩
         ·rw[hcl];intro hh;rcases Nat.lt_or_ge i1 i with hlt | hge
          ·have:=Nat.mul_le_mul_right sz' (Nat.succ_le_of_lt hlt);rw[Nat.succ_mul]at this;omega
          ·have hge2:i+len<=i1:=by omega
           have:=Nat.mul_le_mul_right sz' hge2
           rw[Nat.add_mul]at this;omega)
    refine⟨.tuple #[],w.setRow (μ k) arr,A,μ,lam,.inl ?_,R1.put o.dst { val:=.tup [] } _ hd hf rfl rfl rfl ⟨#[],rfl,rfl,by simp⟩ (by simp)⟩;rw[hex,e1];rcases Nat.eq_zero_or_pos len with hl | hl
    ·subst hl;have hc0:cs2=[]:=List.length_eq_zero_iff.1 (by simpa using hcl)
     have harr0:w.setRow (μ k) arr=w:=by
      have:arr=cc:=by
       apply Array.ext';simp[arr,hc0]
      rw[this];exact setRow_self w _ cc e0 _ h1
     rw[harr0];cases base<;>simp[Builtin.clear_,zag ht]
    ·have:=hbase hl;subst this;obtain⟨m,rfl⟩:=Nat.exists_eq_succ_of_ne_zero (Nat.ne_of_gt hl);simp only[Builtin.clear_,List.getElem?_toArray,List.getElem?_cons_zero,Sem.run_bind,zag ht,Result.andThen_ok,hzrun,Sem.run_pure,Nat.succ_eq_add_one];rw[show(Builtin.zeroCells zv.cells (m+1)).toList=cs2 from hcs];rw[hst];rfl
   ·simp at he
  ·simp at he
 ·simp at he
end
end Rg
end
