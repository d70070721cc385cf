/- Part of the proof of the laws of the package relyguardlaw30: an abstract machine for the program's functions, what they compute, and that the machine is the program's. No condition. (RgL RgM) -/
import Derived.Laws.IdiomStrings
import Derived.Test.YtcgkpboneipghaaGreatDoorPartAE
section
namespace Rg
open Go
def RowsRep (w:World) (A:Nat->Prop) (nm μ:Nat->Nat) (H:Nat->Option O) (sz:Nat) (cs:List Value) (rs:List (List V)):Prop :=
 cs.length=rs.length*sz/\(∀ (i:Nat) (row:List V),rs[i]? = some row->row.length=sz) /\
  ∀ (i:Nat) (row:List V) (j:Nat) (x:V),rs[i]? = some row->row[j]? = some x -> ∃ v,cs[i*sz+j]? = some v/\RepC w A nm μ H v x
section
variable {w w' : World} {A A' : Nat->Prop} {nm μ μ' : Nat->Nat} {H H' : Nat->Option O} {sz:Nat}
theorem RowsRep.evo {cs:List Value} {rs:List (List V)} (h:RowsRep w A nm μ H sz cs rs) (E:Evo w A μ H w' A' μ' H'):RowsRep w' A' nm μ' H' sz cs rs :=
 ⟨h.1,h.2.1,fun i row j x h1 h2=>let ⟨v,hv,hr⟩:=h.2.2 i row j x h1 h2; ⟨v,hv,hr.evo E⟩⟩
theorem row_lt {i j n sz:Nat} (hi:i<n) (hj:j<sz):i*sz+j<n*sz:=by
 have:(i+1)*sz<=n*sz:=Nat.mul_le_mul_right _ hi
 rw [Nat.succ_mul] at this; omega
theorem RowsRep.append {cs ds:List Value} {rs ts:List (List V)} (h:RowsRep w A nm μ H sz cs rs) (h' : RowsRep w A nm μ H sz ds ts):RowsRep w A nm μ H sz (cs++ds) (rs++ts):=by
 refine ⟨by simp [h.1,h'.1,Nat.add_mul],fun i row hi => ?_,fun i row j x hi hj => ?_⟩
 ·rw [List.getElem?_append] at hi
  split at hi
  ·exact h.2.1 i row hi
  ·exact h'.2.1 _ row hi
 ·rw [List.getElem?_append] at hi
  split at hi
  ·rename_i hlt
   obtain ⟨v,hv,hr⟩:=h.2.2 i row j x hi hj
   refine ⟨v, ?_,hr⟩
   rw [List.getElem?_append_left (List.getElem?_eq_some_iff.1 hv).1]; exact hv
  ·rename_i hge
   obtain ⟨v,hv,hr⟩:=h'.2.2 _ row j x hi hj
   refine ⟨v, ?_,hr⟩
   have e:i*sz=rs.length*sz+(i-rs.length)*sz:=by rw [<- Nat.add_mul]; congr 1; omega
   rw [List.getElem?_append_right (by rw [h.1]; omega)]
   have:i*sz+j-cs.length=(i-rs.length)*sz+j:=by rw [h.1]; omega
   rw [this]; exact hv
theorem RowsRep.take {cs:List Value} {rs:List (List V)} (h:RowsRep w A nm μ H sz cs rs) (m:Nat) (hm:m<=rs.length):RowsRep w A nm μ H sz (cs.take (m*sz)) (rs.take m):=by
 have hle:m*sz<=rs.length*sz:=Nat.mul_le_mul_right _ hm
 refine ⟨by simp [h.1,Nat.min_eq_left hm,Nat.min_eq_left hle],fun i row hi => ?_,fun i row j x hi hj => ?_⟩
 ·rw [List.getElem?_take] at hi
  split at hi
  ·exact h.2.1 i row hi
  ·simp at hi
 ·rw [List.getElem?_take] at hi
  split at hi
  ·rename_i hlt
   obtain ⟨v,hv,hr⟩:=h.2.2 i row j x hi hj
   have hjl:j<sz:=by rw [<- h.2.1 i row hi]; exact (List.getElem?_eq_some_iff.1 hj).1
   refine ⟨v, ?_,hr⟩
   rw [List.getElem?_take,if_pos (row_lt hlt hjl)]; exact hv
  ·simp at hi
theorem RowsRep.nil:RowsRep w A nm μ H sz [] []:=⟨by simp,by simp,by simp⟩
theorem RowsRep.one {cs:List Value} {rs:List (List V)} (h:RowsRep w A nm μ H sz cs rs) (hsz:0<sz) : ∀ v∈cs,v.oneCell' = true:=by
 intro v hv
 obtain ⟨q,hq,he⟩:=List.getElem_of_mem hv
 have hlt:q<rs.length*sz:=by rw [<- h.1]; exact hq
 have hi:q / sz<rs.length:=Nat.div_lt_of_lt_mul (by rw [Nat.mul_comm]; exact hlt)
 have hrow:=h.2.1 (q / sz) _ (List.getElem?_eq_getElem hi)
 have hj:q % sz<(rs[q / sz]).length:=by rw [hrow]; exact Nat.mod_lt _ hsz
 obtain ⟨u,hu,hr⟩:=h.2.2 (q / sz) _ (q % sz) _ (List.getElem?_eq_getElem hi) (List.getElem?_eq_getElem hj)
 have e:q / sz*sz+q % sz=q:=by rw [Nat.mul_comm]; exact Nat.div_add_mod q sz
 rw [e,List.getElem?_eq_getElem hq,he] at hu
 cases hu; exact hr.one
end
section
variable {P:Program} {N:Nam} {I:Inv} {c:Ctx} {ns p:Nat} {A:Nat->Prop} {μ lam:Nat->Nat} {s:St} {a:Act} {w:World} {e:Eff} {o:Oper}
theorem first_cells (R:Rel N c ns A μ lam s a w) {v:Value} {x:V} {rs:List (List V)} {sz:Nat} (hrep:RepV w A N.nm μ s.heap v x) (hrows:rowsOf s x=some rs) (hall:rs.all (·.length=sz)=true) :
 ∃ ad cap cs,v = .slice ad rs.length cap/\rs.length<=cap/\RowsRep w A N.nm μ s.heap sz cs rs /\
  (∀ w' : World,(∀ ad,w'.cell? ad=w.cell? ad) -> ∀ m,m<=rs.length->(Builtin.firstCells sz m v).run P w' = .ok (cs.take (m*sz)).toArray w'):=by
 have hlen : ∀ (i:Nat) (row:List V),rs[i]? = some row->row.length=sz:=by
  intro i row hi
  have:=List.all_eq_true.1 hall row (List.mem_of_getElem? hi)
  simpa using this
 have hempty : ∀ ad cap,rs=[]->v = .slice ad 0 cap -> ∃ ad cap cs,v = .slice ad rs.length cap/\rs.length<=cap/\RowsRep w A N.nm μ s.heap sz cs rs /\
  (∀ w' : World,(∀ ad,w'.cell? ad=w.cell? ad) -> ∀ m,m<=rs.length->(Builtin.firstCells sz m v).run P w' = .ok (cs.take (m*sz)).toArray w'):=by
  rintro ad cap rfl rfl
  refine ⟨ad,cap,[],rfl,by simp,RowsRep.nil,fun w' _ m hm => ?_⟩
  have:m=0:=by simpa using hm
  subst this
  cases ad with
  | none=>simp [Builtin.firstCells]
  | some ad=>simp [Builtin.firstCells,loadCells,loadCellsFrom]
 unfold rowsOf at hrows
 split at hrows
 ·simp only [Option.some.injEq] at hrows; subst hrows
  obtain ⟨ad,rfl⟩:=hrep.t_inv.nils_inv
  exact hempty ad 0 rfl rfl
 ·rename_i es
  simp only [Option.some.injEq] at hrows; subst hrows
  rcases hrep.t_inv.sl_inv with ⟨rfl,ad,cap,rfl⟩ | ⟨r,off,cap,sz',vf,rfl,h0,hc,hA,hs,hvv,hr⟩
  ·exact hempty ad cap rfl rfl
  ·have hsz:sz' = sz:=by
    have h1:=hs 0 es[0] (List.getElem?_eq_getElem h0)
    have h2:=hlen 0 (es[0].map V.t) (by simp [List.getElem?_map,List.getElem?_eq_getElem h0])
    simp at h2; omega
   subst hsz
   refine ⟨some ⟨r,off,none⟩,cap,(List.range (es.length*sz')).map (fun q=>vf (q / sz') (q % sz')),by simp,by simpa using hc,⟨by simp,hlen, ?_⟩, ?_⟩
   ·intro i row j x hi hj
    simp only [List.getElem?_map,Option.map_eq_some_iff] at hi
    obtain ⟨e0,he0,rfl⟩:=hi
    simp only [List.getElem?_map,Option.map_eq_some_iff] at hj
    obtain ⟨y,hy,rfl⟩:=hj
    have hil:i<es.length:=(List.getElem?_eq_some_iff.1 he0).1
    have hjl:j<sz' := by rw [<- hs i e0 he0]; exact (List.getElem?_eq_some_iff.1 hy).1
    have hq:=row_lt hil hjl
    refine ⟨vf i j, ?_, .t (hr i e0 j y he0 hy)⟩
    rw [List.getElem?_map,List.getElem?_range hq]
    have h1:(i*sz' + j) / sz' = i:=by rw [Nat.mul_comm,Nat.mul_add_div (by omega)]; simp [Nat.div_eq_of_lt hjl]
    have h2:(i*sz' + j) % sz' = j:=by rw [Nat.mul_comm,Nat.mul_add_mod]; exact Nat.mod_eq_of_lt hjl
    simp [h1,h2]
   ·intro w' hw' m hm
    simp only [List.length_map] at hm
    have hle:m*sz' <= es.length*sz' := Nat.mul_le_mul_right _ hm
    have hl:(((List.range (es.length*sz')).map (fun q=>vf (q / sz') (q % sz'))).take (m*sz')).length=m*sz' := by rw [List.length_take,List.length_map,List.length_range]; omega
    have:=run_loadCells_list (P:=P) (w:=w') ⟨r,off,none⟩ (((List.range (es.length*sz')).map (fun q=>vf (q / sz') (q % sz'))).take (m*sz')) (fun q v hq=>by
     rw [List.getElem?_take] at hq
     split at hq
     ·rename_i hql
      have hql' : q<es.length*sz' := by omega
      rw [List.getElem?_map,List.getElem?_range hql'] at hq
      simp only [Option.map_some,Option.some.injEq] at hq; subst hq
      have hszp:0<sz' := by
       rcases Nat.eq_zero_or_pos sz' with h | h
       ·rw [h] at hql'; simp at hql'
       ·exact h
      have hi:q / sz' < es.length:=Nat.div_lt_of_lt_mul (by rw [Nat.mul_comm]; exact hql')
      have hrow:=hs (q / sz') _ (List.getElem?_eq_getElem hi)
      have hj:q % sz' < (es[q / sz']).length:=by rw [hrow]; exact Nat.mod_lt _ hszp
      have:=hvv (q / sz') _ (q % sz') _ (List.getElem?_eq_getElem hi) (List.getElem?_eq_getElem hj)
      rw [addr_add,hw']
      have e:off+q / sz' * sz' + q % sz' = off+q:=by rw [Nat.add_assoc,Nat.mul_comm,Nat.div_add_mod]
      rw [e] at this; exact this
     ·simp at hq)
    rw [hl] at this
    simp [Builtin.firstCells,this]
 ·rename_i k i len
  split at hrows
  ·rename_i sz' rs0 frz hk
   unfold rd at hrows
   split at hrows
   ·rename_i hle
    simp only [Option.some.injEq] at hrows; subst hrows
    have hlen' : ((rs0.drop i).take len).length=len:=by simp; omega
    cases (hrep:RepC w A N.nm μ s.heap v _) with
    | ms _ _ _ cap sz2 rs2 frz2 ad hk' hi' hc ha =>
      rw [hk] at hk'; cases hk'
      rcases Nat.eq_zero_or_pos len with hl0 | hl0
      ·subst hl0
       exact hempty ad cap (by simp) rfl
      ·obtain ⟨rfl,_⟩:=ha.resolve_left (by omega)
       obtain ⟨cc,e0,z,h1,h2,h3,h4,h5⟩:=R.heap k _ hk
       have hsz:sz' = sz:=by
        have hil:i<rs0.length:=by omega
        have h6:=h4 i _ (List.getElem?_eq_getElem hil)
        have h7:=hlen 0 rs0[i] (by rw [List.getElem?_take,if_pos hl0,List.getElem?_drop]; simp [List.getElem?_eq_getElem hil])
        omega
       subst hsz
       have hbound:(i+len)*sz' <= cc.size:=Nat.le_trans (Nat.mul_le_mul_right _ hle) h3
       have hcsl:((cc.toList.drop (i*sz')).take (len*sz')).length=len*sz' := by
        rw [Nat.add_mul] at hbound; simp; omega
       refine ⟨_,cap,(cc.toList.drop (i*sz')).take (len*sz'),by rw [hlen'],by rw [hlen']; omega,⟨by rw [hcsl,hlen'],hlen, ?_⟩, ?_⟩
       ·intro i1 row j x hi1 hj
        rw [List.getElem?_take] at hi1
        split at hi1
        ·rename_i hlt
         rw [List.getElem?_drop] at hi1
         have hjl:j<sz' := by rw [<- h4 _ row hi1]; exact (List.getElem?_eq_some_iff.1 hj).1
         obtain ⟨v,hv,hr⟩:=h5 _ row j x hi1 hj
         refine ⟨v, ?_,hr⟩
         rw [List.getElem?_take,if_pos (row_lt hlt hjl),List.getElem?_drop,Array.getElem?_toList]
         rw [Nat.add_mul] at hv
         rw [<- Nat.add_assoc]; exact hv
        ·simp at hi1
       ·intro w' hw' m hm
        rw [hlen'] at hm
        have hle2:m*sz' <= len*sz' := Nat.mul_le_mul_right _ hm
        have hl:(((cc.toList.drop (i*sz')).take (len*sz')).take (m*sz')).length=m*sz' := by rw [List.length_take,hcsl]; omega
        have:=run_loadCells_list (P:=P) (w:=w') ⟨μ k,i*sz',none⟩ (((cc.toList.drop (i*sz')).take (len*sz')).take (m*sz')) (fun q v hq=>by
         rw [List.getElem?_take] at hq
         split at hq
         ·rw [List.getElem?_take] at hq
          split at hq
          ·rw [List.getElem?_drop,Array.getElem?_toList] at hq
           rw [addr_add,hw']; simp [World.cell?,h1,hq]
          ·simp at hq
         ·simp at hq)
        rw [hl] at this
        simp [Builtin.firstCells,this]
    | dms _ _ _ hk' => rw [hk] at hk'; cases hk'
   ·simp at hrows
  ·simp at hrows
 ·simp at hrows
theorem bytesOf_get : ∀ {rs:List (List V)} {l:List UInt8},bytesOf rs=some l->l.length=rs.length /\ ∀ (i:Nat) (b:UInt8),l[i]? = some b->rs[i]? = some [.t (.int .u8 b.toNat)]
 | [],l,h=>by simp only [bytesOf,Option.some.injEq] at h; subst h; simp
 | r::rs,l,h=>by
   unfold bytesOf at h
   split at h
   ·rename_i h0; cases h0
   ·rename_i z r' h0
    cases h0
    split at h
    ·rename_i hz
     simp only [Option.map_eq_some_iff] at h
     obtain ⟨l',hl',rfl⟩:=h
     obtain ⟨h1,h2⟩:=bytesOf_get hl'
     refine ⟨by simp [h1],fun i b hi => ?_⟩
     cases i with
     | zero =>
       simp only [List.getElem?_cons_zero,Option.some.injEq] at hi
       subst hi
       have:((UInt8.ofNat z.toNat).toNat:Int)=z:=by
        rw [UInt8.toNat_ofNat',Nat.mod_eq_of_lt (by omega)]; omega
       rw [this]; rfl
     | succ i=>simpa using h2 i b (by simpa using hi)
    ·cases h
   ·cases h
theorem s_bstr (hI:I.Ok N) (R:Rel N c ns A μ lam s a w) {src dst t:TypeId} {x:Operand} {x' : Opd} (hx:opd I x=some x') (he:aeval N.G p s (.bstr x')=some e)
 (h1:P.underlying src=some (.slice t)) (h2:P.underlying dst=some .string) (h3:P.underlying t=some (.int .u8)):Gives N A μ s w ((convert src dst (a.eval x)).run P w) e:=by
 simp only [aeval,Option.bind_eq_bind,Option.bind_eq_some_iff,Option.some.injEq] at he
 obtain ⟨u,hu,rs,hrs,l,hl,rfl⟩:=he
 obtain ⟨b1,b2⟩:=bytesOf_get hl
 have hall:rs.all (·.length=1)=true:=by
  rw [List.all_eq_true]
  intro row hrow
  obtain ⟨i,hi,rfl⟩:=List.getElem_of_mem hrow
  have hil:i<l.length:=by omega
  have:=b2 i l[i] (List.getElem?_eq_getElem hil)
  rw [List.getElem?_eq_getElem hi,Option.some.injEq] at this
  rw [this]; rfl
 obtain ⟨ad,cap,cs,hv,hcap,hrep,hload⟩:=first_cells (P:=P) R (opd_eval hI R hx hu) hrs hall
 have hcs:cs=(l.map fun b=>(b.toNat:Int)).map (Value.int .u8):=by
  apply List.ext_getElem?
  intro i
  by_cases hi:i<l.length
  ·obtain ⟨v,hv1,hr⟩:=hrep.2.2 i _ 0 _ (b2 i l[i] (List.getElem?_eq_getElem hi)) rfl
   rw [Nat.mul_one,Nat.add_zero] at hv1
   cases hr.toV.int_inv
   rw [hv1]; simp [hi]
  ·rw [List.getElem?_eq_none (by have:=hrep.1; omega),List.getElem?_eq_none (by simp; omega)]
 refine ⟨.string ⟨l.toArray⟩, ?_,(RepC.t (.str _)).toV,rfl,rfl,rfl,rfl⟩
 rw [hv]
 cases ad with
 | none =>
   have h0:=hload w (fun _=>rfl) rs.length (Nat.le_refl _)
   rw [hv] at h0
   simp only [Builtin.firstCells,Sem.run_pure] at h0
   have:l=[]:=by
    have h4:=congrArg (fun r=>match r with | Result.ok (x:Array Value) _=>x.size | _=>0) h0
    simp only [Nat.mul_one,List.size_toArray,List.length_take] at h4
    have h5:=hrep.1
    simp only [Nat.mul_one] at h5
    rw [h5,Nat.min_self] at h4
    exact List.eq_nil_of_length_eq_zero (by rw [b1]; exact h4.symm)
   subst this
   rw [run_convert_bytes_string w src dst t none rs.length cap h1 h3 h2]
   simp only [Conv.bytesToString,Sem.run_pure]
   congr 1
 | some ad =>
   have h0:=hload w (fun _=>rfl) rs.length (Nat.le_refl _)
   rw [hv] at h0
   simp only [Builtin.firstCells] at h0
   rw [run_convert_bytes_string w src dst t (some ad) rs.length cap h1 h3 h2,run_bytesToString w ad rs.length cap (l.map fun b=>(b.toNat:Int)),foldl_push_byteCells]
   ·simp
   ·rw [<- hcs]
    have e:cs.take (rs.length*1)=cs:=by rw [List.take_of_length_le]; rw [hrep.1]; exact Nat.le_refl _
    rw [e,Nat.mul_one] at h0
    exact h0
end
end Rg
end
section
namespace Rg
open Go
section
variable {w:World} {A:Nat->Prop} {nm μ:Nat->Nat} {H:Nat->Option O} {sz:Nat}
theorem RowsRep.set {cs us cs' : List Value} {rs:List (List V)} {new:List V} {i:Nat} (h:RowsRep w A nm μ H sz cs rs) (hn:RepL w A nm μ H us new) (hl:new.length=sz) (hi:i<rs.length)
 (hcl:cs'.length=cs.length) (hg : ∀ k,k<cs.length->cs'[k]? = if i*sz<=k/\k<i*sz+us.length then us[k-i*sz]? else cs[k]?):RowsRep w A nm μ H sz cs' (rs.set i new):=by
 refine ⟨by simp [hcl,h.1],fun i' row hr => ?_,fun i' row j x hr hj => ?_⟩
 ·rcases set_get hr with ⟨rfl,rfl⟩ | ⟨_,hr⟩
  ·exact hl
  ·exact h.2.1 i' row hr
 ·have hul:us.length=sz:=by rw [hn.1,hl]
  rcases set_get hr with ⟨rfl,rfl⟩ | ⟨hne,hr⟩
  ·have hjl:j<sz:=by rw [<- hl]; exact (List.getElem?_eq_some_iff.1 hj).1
   obtain ⟨v,hv,hrep⟩:=hn.2 j x hj
   refine ⟨v, ?_,hrep⟩
   rw [hg _ (by rw [h.1]; exact row_lt hi hjl),if_pos (by omega)]
   have:i' * sz+j-i' * sz=j:=by omega
   rw [this]; exact hv
  ·have hjl:j<sz:=by rw [<- h.2.1 i' row hr]; exact (List.getElem?_eq_some_iff.1 hj).1
   have hil:i' < rs.length:=(List.getElem?_eq_some_iff.1 hr).1
   obtain ⟨v,hv,hrep⟩:=h.2.2 i' row j x hr hj
   refine ⟨v, ?_,hrep⟩
   rw [hg _ (by rw [h.1]; exact row_lt hil hjl),if_neg]
   ·exact hv
   ·intro hh
    rcases Nat.lt_or_gt_of_ne hne with hlt | hlt
    ·have:=Nat.mul_le_mul_right sz (Nat.succ_le_of_lt hlt)
     rw [Nat.succ_mul] at this; omega
    ·have:=Nat.mul_le_mul_right sz (Nat.succ_le_of_lt hlt)
     rw [Nat.succ_mul] at this; omega
theorem RowsRep.replicate {zv:Array Value} {z:List V} (h:RepL w A nm μ H zv.toList z) (hl:z.length=sz) (len n:Nat) (hn:n=len*sz) :
 RowsRep w A nm μ H sz ((Array.range n).map (zv[· % zv.size]!)).toList (List.replicate len z):=by
 subst hn
 have hsz:zv.size=sz:=by have:=h.1; simp at this; omega
 refine ⟨by simp,fun i row hr => ?_,fun i row j x hr hj => ?_⟩
 ·rw [List.getElem?_replicate] at hr
  split at hr
  ·simp at hr; rw [<- hr,hl]
  ·simp at hr
 ·rw [List.getElem?_replicate] at hr
  split at hr
  ·rename_i hlt
   simp only [Option.some.injEq] at hr; subst hr
   have hjl:j<sz:=by rw [<- hl]; exact (List.getElem?_eq_some_iff.1 hj).1
   obtain ⟨v,hv,hrep⟩:=h.2 j x hj
   refine ⟨v, ?_,hrep⟩
   have hq:=row_lt hlt hjl
   have hm:(i*sz+j) % sz=j:=by rw [Nat.mul_comm,Nat.mul_add_mod]; exact Nat.mod_eq_of_lt hjl
   simp only [Array.getElem?_toList] at hv
   have hjz:j<zv.size:=by omega
   simp only [Array.toList_map,Array.toList_range,List.getElem?_map,List.getElem?_range hq,Option.map_some,hsz,hm]
   rw [Array.getElem?_eq_getElem hjz] at hv
   simp only [Option.some.injEq] at hv
   simp [hjz,hv]
  ·simp at hr
end
section
variable {P:Program} {N:Nam} {I:Inv} {c:Ctx} {ns p:Nat} {A:Nat->Prop} {μ lam:Nat->Nat} {s:St} {a:Act} {w:World} {e:Eff} {o:Oper}
theorem fillRows_rep (hI:I.Ok N) (R:Rel N c ns A μ lam s a w) (sz:Nat) : ∀ (parts:List (Nat×Operand)) (ps:List (Nat×Opd)) (cells:Array Value) (rs rs' : List (List V)),
 (parts.length=ps.length /\ ∀ (i:Nat) (q:Nat×Opd),ps[i]? = some q -> ∃ x,parts[i]? = some x/\x.1=q.1/\opd I x.2=some q.2) ->
 RowsRep w A N.nm μ s.heap sz cells.toList rs->fillRows N.G rs sz s ps=some rs' ->
 ∃ cells',Instr.fill (fun i=>some (i*sz,sz)) cells (parts.map fun x=>(x.1,a.eval x.2))=some cells' /\ RowsRep w A N.nm μ s.heap sz cells'.toList rs' /\ rs'.length=rs.length
 | [],ps,cells,rs,rs',hps,hrep,hf=>by
   obtain ⟨hl,_⟩:=hps
   have:ps=[]:=List.length_eq_zero_iff.1 (by simpa using hl.symm)
   subst this
   simp only [fillRows,Option.some.injEq] at hf; subst hf
   exact ⟨cells,rfl,hrep,rfl⟩
 | (i,x)::parts,[],cells,rs,rs',hps,hrep,hf=>by simp at hps
 | (i,x)::parts,(i',y)::ps,cells,rs,rs',hps,hrep,hf=>by
   obtain ⟨hl,hq⟩:=hps
   obtain ⟨q0,hq0,hpl,hop⟩:=hq 0 _ rfl
   simp only [List.getElem?_cons_zero,Option.some.injEq] at hq0; subst hq0
   simp only at hpl hop
   subst hpl
   simp only [fillRows,Option.bind_eq_bind,Option.bind_eq_some_iff] at hf
   obtain ⟨v,hv,new,hnew,hf⟩:=hf
   split at hf
   ·rename_i hlen
    obtain ⟨hlen,hil⟩:=hlen
    have hr:=(opd_eval hI R hop hv).cells hnew
    have hsz:(a.eval x).cells.size=sz:=by have:=hr.1; simp at this; omega
    have hcl:cells.size=rs.length*sz:=by have:=hrep.1; simpa using this
    obtain ⟨f1,f2⟩:=fold_set (i*sz) (a.eval x).cells.toList 0 cells
    have hrep1:RowsRep w A N.nm μ s.heap sz (((a.eval x).cells.toList.zipIdx 0).foldl (fun cs (x:Value×Nat)=>match x with | (c,j)=>cs.setIfInBounds (i*sz+j) c) cells).toList (rs.set i new):=by
     refine hrep.set hr hlen hil (by simpa using f1) (fun k hk => ?_)
     simp only [Array.getElem?_toList]
     rw [f2 k]
     simp only [Nat.add_zero,Array.length_toList] at hk ⊢
     by_cases hc:i*sz<=k/\k<i*sz+(a.eval x).cells.size
     ·rw [if_pos ⟨hc.1,hc.2,hk⟩,if_pos hc]; simp
     ·rw [if_neg (by omega),if_neg hc]
    obtain ⟨cells',h1,h2,h3⟩:=fillRows_rep hI R sz parts ps _ (rs.set i new) rs' ⟨by simpa using hl,fun i q hi=>by
     obtain ⟨z,hz,hz2⟩:=hq (i+1) q (by simpa using hi)
     exact ⟨z,by simpa using hz,hz2⟩⟩ hrep1 hf
    refine ⟨cells', ?_,h2,by simpa using h3⟩
    have hfit:i*sz+sz<=cells.size:=by
     rw [hcl]
     have:=Nat.mul_le_mul_right sz (Nat.succ_le_of_lt hil)
     rw [Nat.succ_mul] at this; exact this
    simp only [List.map_cons,Instr.fill,hsz]
    rw [<- h1]
    have:(decide (sz≠sz)||decide (i*sz+sz>cells.size))=false:=by simp; omega
    simp only [this,Bool.false_eq_true,if_false]
    congr 1
    rw [<- Array.foldl_toList]
    simp
   ·simp at hf
theorem newS (R:Rel N c ns A μ lam s a w) {k sz cap:Nat} {cells:Array Value} {cs:List Value} {rs:List (List V)} {t:TypeId} {d:Option Nat} (hk:s.heap k=none) (hn:k<s.nxt)
 (hrs:RowsRep w A N.nm μ s.heap sz cs rs) (hpre : ∀ (q:Nat) (v:Value),cs[q]? = some v->cells[q]? = some v) (hsize:cap*sz<=cells.size) (hcap:rs.length<=cap)
 (hd : ∀ x,d=some x->x<ns) (hf:s.free d {}) :
 Rel N c ns A (upd μ k w.heap.size) lam (s.apply d { val:=.ms k 0 rs.length,hp:=[(k, .rows sz rs false)] }) (a.put d (.slice (some ⟨w.heap.size,0,none⟩) rs.length cap)) (w.alloc (.cells cells t)):=by
 have R1:=newH R (t:=t) (cells:=cells) hk hn (Nat.le_trans (Nat.mul_le_mul_right _ hcap) hsize) hrs.2.1 (fun i row j x h1 h2=>by
  obtain ⟨v,hv,hr⟩:=hrs.2.2 i row j x h1 h2
  exact ⟨v,hpre _ v hv,hr⟩)
 refine R1.put d { val:=.ms k 0 rs.length } _ hd hf rfl rfl rfl ?_ (by simp)
 have:=RepC.ms (w:=w.alloc (.cells cells t)) (A:=A) (nm:=N.nm) (μ:=upd μ k w.heap.size) (H:=upd s.heap k (some (.rows sz rs false))) k 0 rs.length cap sz rs false (some ⟨w.heap.size,0,none⟩) (by simp) (by simp) (by omega)
  (.inr ⟨by simp,t,cells.size,by rw [upd_same]; unfold World.shape?; rw [heap_alloc],by simpa using hsize⟩)
 exact this.toV
theorem s_bslice (hI:I.Ok N) (R:Rel N c ns A μ lam s a w) {t el:TypeId} {n len:Nat} {ag:Bool} {z:List V} {parts:Array (Nat×Operand)} {ps:List (Nat×Opd)}
 (ht:P.underlying t=some (.slice el)) (hty:typ P el=some (ag,n)) (hz:zeroOf P el=some z) (hzl:z.length=n) (hlen:len*n<=2^24)
 (hps:parts.toList.length=ps.length /\ ∀ (i:Nat) (q:Nat×Opd),ps[i]? = some q -> ∃ x,parts.toList[i]? = some x/\x.1=q.1/\opd I x.2=some q.2) (ho:o.op = .buildSlice t len parts)
 (hd : ∀ x,o.dst=some x->x<ns) (hf:s.free o.dst e) (hk:s.heap (s.bas+p)=none) (hn:s.bas+p<s.nxt) (he:aeval N.G p s (.bslice n len z ps)=some e):Sound P N c ns o a w (s.apply o.dst e):=by
 simp only [aeval,Option.bind_eq_bind,Option.bind_eq_some_iff,Option.some.injEq] at he
 obtain ⟨rs,hrs,rfl⟩:=he
 obtain ⟨i,v,hi,hv,hc,hrun⟩:=zeroOf_spec hz
 obtain ⟨inf,g1,g2,g3,g4⟩:=typ_spec hty
 have hmap:(parts.map fun (i,x)=>(i,a.eval x)).toList=parts.toList.map fun x=>(x.1,a.eval x.2):=by simp
 have hnot : ¬ (len*n>2^24):=by omega
 obtain ⟨zero,hzero,hinit⟩ : ∃ zero:Array Value,zero=(if len*n=0 then #[] else v.cells) /\
  RowsRep w A N.nm μ s.heap n ((Array.range (len*n)).map (zero[· % zero.size]!)).toList (List.replicate len z):=by
  by_cases h0:len*n=0
  ·refine ⟨#[],by rw [if_pos h0], ?_⟩
   rcases Nat.mul_eq_zero.1 h0 with h | h
   ·subst h; simp; exact RowsRep.nil
   ·subst h
    refine ⟨by simp,fun i row hr => ?_,fun i row j x hr hj => ?_⟩
    ·rw [List.getElem?_replicate] at hr; split at hr
     ·simp at hr; rw [<- hr,hzl]
     ·simp at hr
    ·rw [List.getElem?_replicate] at hr; split at hr
     ·simp at hr; subst hr
      have:=List.length_eq_zero_iff.1 hzl; subst this; simp at hj
     ·simp at hr
  ·exact ⟨v.cells,by rw [if_neg h0],RowsRep.replicate (cellsOf_rep hc) hzl len _ rfl⟩
 obtain ⟨cells',h1,h2,h3⟩:=fillRows_rep hI R n parts.toList ps _ _ rs hps hinit hrs
 simp only [List.length_replicate] at h3
 subst h3
 have hcl:cells'.size=rs.length*n:=by have:=h2.1; simpa using this
 refine ⟨_,_,A,_,lam, .inl ?_,newS R (t:=el) (cap:=rs.length) (d:=o.dst) (cells:=cells') hk hn h2 (by simp) (by rw [hcl]; exact Nat.le_refl _) (Nat.le_refl _) hd hf⟩
 by_cases h0:rs.length*n=0
 ·rw [if_pos h0] at hzero; subst hzero
  simp only [execOp,ho,Instr.buildSlice,Sem.run_bind,run_und ht,Result.andThen_ok,run_size g1,g2,hnot,if_false,hmap,newRow,Sem.run_pure]
  rw [if_pos h0]
  simp only [Sem.run_pure,Result.andThen_ok,h1,Sem.run_bind,run_newObj]
  rfl
 ·rw [if_neg h0] at hzero; subst hzero
  simp only [execOp,ho,Instr.buildSlice,Sem.run_bind,run_und ht,Result.andThen_ok,run_size g1,g2,hnot,if_false,h0,hrun,hmap,h1,newRow,run_newObj,Sem.run_pure]
  rfl
theorem wrap_small {m:Int} (h0:0<=m) (h1:m<=2^32):IntKind.i64.wrap m=m:=by
 unfold IntKind.wrap
 have e:m % (2^IntKind.i64.bits:Int)=m:=Int.emod_eq_of_lt h0 (by simp [IntKind.bits]; omega)
 simp only [e]
 have : ¬ (m>=(2^(IntKind.i64.bits-1):Int)):=by simp [IntKind.bits]; omega
 simp [this]
theorem s_mkslice (hI:I.Ok N) (R:Rel N c ns A μ lam s a w) {t el:TypeId} {n:Nat} {ag:Bool} {z:List V} {i:TypeInfo} {x y:Operand} {x' y' : Opd}
 (hx:opd I x=some x') (hy:opd I y=some y') (ht:P.underlying t=some (.slice el)) (hty:typ P el=some (ag,n)) (hz:zeroOf P el=some z) (hi:P.info? el=some i) (ho:o.op = .makeSlice t x y) (hn0:0<n)
 (hd : ∀ x,o.dst=some x->x<ns) (hf:s.free o.dst e) (hk:s.heap (s.bas+p)=none) (hn:s.bas+p<s.nxt) (he:aeval N.G p s (.mkslice n i.bytes z x' y')=some e):Sound P N c ns o a w (s.apply o.dst e):=by
 simp only [aeval,Option.bind_eq_bind,Option.bind_eq_some_iff] at he
 obtain ⟨l,hl,m,hm,he⟩:=he
 split at he
 ·rename_i hb
  obtain ⟨hb0,hb1,hb2,hb3,hzl⟩:=hb
  simp only [Option.some.injEq] at he; subst he
  obtain ⟨kl,hkl⟩:=int_eval hI R hx hl
  obtain ⟨km,hkm⟩:=int_eval hI R hy hm
  obtain ⟨i',v,hi',hv,hc,hrun⟩:=zeroOf_spec hz
  obtain ⟨inf,g1,g2,g3,g4⟩:=typ_spec hty
  have hwl:=wrap_small hb0 (by omega:l<=2^32)
  have hwm:=wrap_small (by omega:(0:Int)<=m) hb2
  have hbig : ¬ ((i.bytes:Int)*m>2^48):=by
   have h1:(i.bytes:Int)*m<=2^12*2^32:=Int.mul_le_mul (by omega) hb2 (by omega) (by omega)
   omega
  obtain ⟨zero,hzero,hinit⟩ : ∃ zero:Array Value,zero=(if m.toNat*n=0 then #[] else v.cells) /\
   RowsRep w A N.nm μ s.heap n ((Array.range (m.toNat*n)).map (zero[· % zero.size]!)).toList (List.replicate m.toNat z):=by
   by_cases h0:m.toNat*n=0
   ·refine ⟨#[],by rw [if_pos h0], ?_⟩
    rcases Nat.mul_eq_zero.1 h0 with h | h
    ·rw [h]; simp; exact RowsRep.nil
    ·omega
   ·exact ⟨v.cells,by rw [if_neg h0],RowsRep.replicate (cellsOf_rep hc) hzl m.toNat _ rfl⟩
  have hpre:=hinit.take l.toNat (by simp; omega)
  have htake:(List.replicate m.toNat z).take l.toNat=List.replicate l.toNat z:=by
   rw [List.take_replicate]; congr 1; omega
  rw [htake] at hpre
  have hres:=newS R (t:=el) (cap:=m.toNat) (d:=o.dst) (cells:=(Array.range (m.toNat*n)).map (zero[· % zero.size]!)) hk hn hpre (fun q v hq=>by
   rw [List.getElem?_take] at hq
   split at hq
   ·rw [<- Array.getElem?_toList]; exact hq
   ·simp at hq) (by simp) (by simp; omega) hd hf
  simp only [List.length_replicate] at hres
  refine ⟨_,_,A,_,lam, .inl ?_,hres⟩
  have hcond:(decide (m<0)||decide ((i.bytes:Int)*m>2^48))=false:=by simp; omega
  have c1:decide (l<0)=false:=by simp; omega
  have c2:decide (l>m)=false:=by simp; omega
  by_cases h0:m.toNat*n=0
  ·rw [if_pos h0] at hzero; subst hzero
   simp only [execOp,ho,Instr.makeSlice,Sem.run_bind,run_und ht,Result.andThen_ok,hkl,hkm,asInt,asIntOf,Sem.run_pure,run_info hi,hwl,hwm,hcond,c1,c2,Bool.or_false,Bool.false_eq_true,if_false,run_askRoom,run_size g1,g2,h0,if_true,newRow,run_newObj]
   rfl
  ·rw [if_neg h0] at hzero; subst hzero
   simp only [execOp,ho,Instr.makeSlice,Sem.run_bind,run_und ht,Result.andThen_ok,hkl,hkm,asInt,asIntOf,Sem.run_pure,run_info hi,hwl,hwm,hcond,c1,c2,Bool.or_false,Bool.false_eq_true,if_false,run_askRoom,run_size g1,g2,h0,hrun,newRow,run_newObj]
   rfl
 ·simp at he
end
end Rg
end
