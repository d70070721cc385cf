/- Part of the proof of the laws of the package relyguardlaw36: an abstract machine for the program's functions, what they compute, and that the machine is the program's. No condition. (RgN) -/
import Derived.Deep.AppendSrc
import Derived.Test.YtaiokglcgiemnaaGreatDoorPartAE
section
namespace Rg
open Go
section
variable {P:Program} {w:World}
theorem run_app1 {t u el el' ty:TypeId} {i:TypeInfo} {base:Option Addr} {v:Value} {sLen sCap n sz:Nat} {new:Array Value} {w':World} (ht:P.underlying t=some (.slice el)) (hu:P.underlying u=some (.slice el'))
 (hi:P.info? el=some i) (hsz:i.size=sz) (hv: ∃ad cap,v= .slice ad n cap) (hle:sLen+n<=sCap) (hnew:(Builtin.firstCells sz n v).run P w= .ok new w)
 (hst: ∀ad,base=some ad->(storeCells (ad.add (sLen*sz)) new.toList).run P w= .ok () w') (hb:base=none->w'=w):
 (Builtin.append_ #[t,u] ty #[.slice base sLen sCap,v]).run P w= .ok (.slice base (sLen+n) sCap) w':=by
 obtain⟨ad,cap,rfl⟩:=hv
 cases base with
 | none=>
   have:=hb rfl
   subst this
   simp[Builtin.append_,run_und ht,run_und hu,run_size hi,hsz,Builtin.lenOf,hle,hnew]
 | some b=>
   simp[Builtin.append_,run_und ht,run_und hu,run_size hi,hsz,Builtin.lenOf,hle,hnew,hst b rfl]
end
theorem appRows_get {α:Type} {as bs rs:List α} {i:Nat} {row:α} (has:as=rs.take as.length) (h:(appRows as bs rs)[i]? =some row):
 (i<as.length/\rs[i]? =some row)\/(as.length<=i/\i<as.length+bs.length/\bs[i-as.length]? =some row)\/(as.length+bs.length<=i/\rs[i]? =some row):=by
 have h1:(as++bs)[i]? =some row->(i<as.length/\rs[i]? =some row)\/(as.length<=i/\i<as.length+bs.length/\bs[i-as.length]? =some row):=by
  intro h
  rw[List.getElem?_append]at h
  split at h
  ·rename_i hlt
   left
   refine⟨hlt,?_⟩
   have e:as[i]? =(rs.take as.length)[i]? :=congrArg (fun l=>l[i]?) has
   rw[e,List.getElem?_take,if_pos hlt]at h
   exact h
  ·rename_i hge
   right
   have:=(List.getElem?_eq_some_iff.1 h).1
   exact⟨by omega,by omega,h⟩
 unfold appRows at h
 split at h
 ·rcases h1 h with h | h
  ·exact .inl h
  ·exact .inr (.inl h)
 ·rw[List.getElem?_append]at h
  split at h
  ·rcases h1 h with h | h
   ·exact .inl h
   ·exact .inr (.inl h)
  ·rename_i hge
   rw[List.length_append]at hge h
   rw[List.getElem?_drop]at h
   exact .inr (.inr ⟨by omega,by rw[<- h];congr 1;omega⟩)
theorem appRows_len {α:Type} (as bs rs:List α):as.length+bs.length<=(appRows as bs rs).length/\((appRows as bs rs).length=as.length+bs.length\/(appRows as bs rs).length=rs.length):=by
 unfold appRows
 split
 ·rw[List.length_append];exact⟨Nat.le_refl _,.inl rfl⟩
 ·rw[List.length_append,List.length_append,List.length_drop]
  exact⟨by omega,.inr (by omega)⟩
theorem grown_le (w:World) (need old:Nat) (e:TypeId):need<=grownCap w need old e:=by
 simp[grownCap,Question.cut]
section
variable {P:Program} {N:Nam} {I:Inv} {c:Ctx} {ns p:Nat} {A:Nat->Prop} {μ lam:Nat->Nat} {s:St} {a:Act} {w:World} {e:Eff} {o:Oper}
theorem exec_append {cl:Call} (ho:o.op= .call cl) (hb:cl.callee= .builtin .append):
 (execOp a.eval o).run P w=((Builtin.append_ cl.argTypes o.type (cl.args.map a.eval)).run P w).andThen fun v w'=> .ok (.value v) w':=by
 simp[execOp,ho,resolve,hb,invoke,builtin]
theorem exec_copy {cl:Call} (ho:o.op= .call cl) (hb:cl.callee= .builtin .copy):
 (execOp a.eval o).run P w=((Builtin.copy_ cl.argTypes o.type (cl.args.map a.eval)).run P w).andThen fun v w'=> .ok (.value v) w':=by
 simp[execOp,ho,resolve,hb,invoke,builtin]
theorem exec_max {cl:Call} (ho:o.op= .call cl) (hb:cl.callee= .builtin .max):
 (execOp a.eval o).run P w=((Builtin.max_ cl.argTypes o.type (cl.args.map a.eval)).run P w).andThen fun v w'=> .ok (.value v) w':=by
 simp[execOp,ho,resolve,hb,invoke,builtin]
theorem exec_min {cl:Call} (ho:o.op= .call cl) (hb:cl.callee= .builtin .min):
 (execOp a.eval o).run P w=((Builtin.min_ cl.argTypes o.type (cl.args.map a.eval)).run P w).andThen fun v w'=> .ok (.value v) w':=by
 simp[execOp,ho,resolve,hb,invoke,builtin]
theorem exec_cap {cl:Call} (ho:o.op= .call cl) (hb:cl.callee= .builtin .cap):
 (execOp a.eval o).run P w=((Builtin.cap_ cl.argTypes o.type (cl.args.map a.eval)).run P w).andThen fun v w'=> .ok (.value v) w':=by
 simp[execOp,ho,resolve,hb,invoke,builtin]
theorem exec_len {cl:Call} (ho:o.op= .call cl) (hb:cl.callee= .builtin .len):
 (execOp a.eval o).run P w=((Builtin.len_ cl.argTypes o.type (cl.args.map a.eval)).run P w).andThen fun v w'=> .ok (.value v) w':=by
 simp[execOp,ho,resolve,hb,invoke,builtin]
theorem drew_cell (w:World): ∀ad,w.drew.cell? ad=w.cell? ad:=fun _=>rfl
theorem evo_drew (w:World) (A:Nat->Prop) (μ:Nat->Nat) (H:Nat->Option O):Evo w A μ H w.drew A μ H:=
 ⟨fun _ _=>rfl,fun _ h=>h,fun _ o h=>⟨o,h,O.le_refl o,fun _=>rfl⟩,fun _ _ h=>h⟩
theorem s_append (hI:I.Ok N) (R:Rel N c ns A μ lam s a w) {cl:Call} {t u el el':TypeId} {n:Nat} {ag:Bool} {i:TypeInfo} {x y:Operand} {x' y':Opd} {zl:List V}
 (hx:opd I x=some x') (hy:opd I y=some y') (ht:P.underlying t=some (.slice el)) (hu:P.underlying u=some (.slice el')) (hty:typ P el=some (ag,n)) (hi:P.info? el=some i) (hz:zeroOf P el=some zl) (hzl:zl.length=n) (hn0:0<n)
 (ho:o.op= .call cl) (hb:cl.callee= .builtin .append) (hat:cl.argTypes= #[t,u]) (hag:cl.args= #[x,y])
 (hd: ∀x,o.dst=some x->x<ns) (hf:s.free o.dst e) (hk:s.heap (s.bas+p)=none) (hn:s.bas+p<s.nxt) (he:aeval N.G p s (.append n i.bytes x' y')=some e):Sound P N c ns o a w (s.apply o.dst e):=by
 have hex:=exec_append (P:=P) (w:=w) (a:=a) ho hb
 rw[hat,hag]at hex
 simp only[List.map_toArray,List.map_cons,List.map_nil]at hex
 obtain⟨inf,g1,g2,g3,g4⟩:=typ_spec hty
 rw[hi]at g1;cases g1
 obtain⟨i',z,hi',hz0,hzc,hzrun⟩:=zeroOf_spec hz
 rw[hi]at hi';cases hi'
 have hzs:z.cells.size=n:=by have:=(cellsOf_rep (w:=w) (A:=A) (nm:=N.nm) (μ:=μ) (H:=s.heap) hzc).1;simp at this;omega
 simp only[aeval,Option.bind_eq_bind,Option.bind_eq_some_iff]at he
 obtain⟨v1,hv1,v2,hv2,as,has,bs,hbs,he⟩:=he
 split at he
 ·rename_i hc
  obtain⟨⟨hc1,hc2⟩,hc3,hc4⟩:=hc
  have r1:=opd_eval hI R hx hv1
  have r2:=opd_eval hI R hy hv2
  obtain⟨ad1,cap1,cs1,e1,l1,rr1,f1⟩:=first_cells (P:=P) R r1 has hc4
  obtain⟨ad2,cap2,cs2,e2,l2,rr2,f2⟩:=first_cells (P:=P) R r2 hbs hc3
  have t1: ∀{cs:List Value} {rs:List (List V)},cs.length=rs.length*n->cs.take (rs.length*n)=cs:=fun h=>by rw[<- h,List.take_length]
  rw[e1,e2]at hex
  have F2:=f2 w (fun _=>rfl) bs.length (Nat.le_refl _);rw[t1 rr2.1,e2]at F2
  have F1':=f1 w.drew (drew_cell w) as.length (Nat.le_refl _);rw[t1 rr1.1,e1]at F1'
  have F2':=f2 w.drew (drew_cell w) bs.length (Nat.le_refl _);rw[t1 rr2.1,e2]at F2'
  split at he
  ·rename_i hemp
   simp only[Option.some.injEq]at he;subst he
   have hbe:bs=[]:=by simpa using hemp
   subst hbe
   have hcs2:cs2=[]:=List.length_eq_zero_iff.1 (by simpa using rr2.1)
   subst hcs2
   refine⟨a.eval x,w,A,μ,lam,.inl ?_,R.put o.dst _ _ hd hf rfl rfl rfl r1 (by simp)⟩
   rw[hex,run_app1 (w':=w) ht hu hi g2 ⟨_,_,rfl⟩ (by simpa using l1) F2 (fun ad _=>by simp[storeCells]) (fun _=>rfl),e1]
   simp
  ·rename_i hemp
   have hbl:0<bs.length:=by
    cases bs with
    | nil=>simp at hemp
    | cons b l=>simp
   -- a new block,whatever was there
   have grow: ¬(as.length+bs.length<=cap1)-> ∀(s1:St) (_:Rel N c ns A μ lam s1 a w),s1.heap (s.bas+p)=none->s.bas+p<s1.nxt->s1.free o.dst {}->
    RowsRep w A N.nm μ s1.heap n (cs1++cs2) (as++bs)->
    Sound P N c ns o a w (s1.apply o.dst { val:=.ms (s.bas+p) 0 (as++bs).length,hp:=[(s.bas+p,.rows n (as++bs) false)] }):=by
    intro hgt s1 hs1 hk1 hn1 hf1 hrows
    have src:Src P i.size u (.slice ad2 bs.length cap2) bs.length cs2 w:=
     ⟨.inl ⟨el',hu⟩,fun _=>rfl,by rw[g2];exact F2,by rw[g2];exact F2',by rw[g2];exact rr2.1,rr2.one hn0⟩
    have hneed:as.length+bs.length<=2^32:=hc1
    have hfit:Builtin.nextslicecap (as.length+bs.length) cap1*i.bytes<=281474976710656:=by
     refine growslice_fits (by omega) ?_
     have:=Nat.mul_le_mul hneed hc2
     omega
    have hrun:=run_append_grow_src (P:=P) w t u o.type el i z ht hi hz0 ad1 as.length cap1 cs1 (by rw[g2];exact F1') (.slice ad2 bs.length cap2) bs.length cs2 src (by omega) (by omega) hfit
    have hlen:(as++bs).length=as.length+bs.length:=by simp
    have hcslen:(cs1++cs2).length=(as.length+bs.length)*n:=by rw[hrows.1,hlen]
    have hcap:=grown_le w (as.length+bs.length) cap1 el
    rw[hrun]at hex
    have hres:=newS (hs1.drew) (t:=el) (cap:=grownCap w (as.length+bs.length) cap1 el) (d:=o.dst)
     (cells:=(cs1++cs2).toArray++Builtin.zeroCells z.cells (grownCap w (as.length+bs.length) cap1 el-(as.length+bs.length))) hk1 hn1 (hrows.evo (evo_drew w A μ s1.heap)) (fun q v hq=>by
       rw[Array.getElem?_append_left (by simpa using(List.getElem?_eq_some_iff.1 hq).1)]
       simpa using hq) (by
       rw[Array.size_append]
       have e3:(Builtin.zeroCells z.cells (grownCap w (as.length+bs.length) cap1 el-(as.length+bs.length))).size=(grownCap w (as.length+bs.length) cap1 el-(as.length+bs.length))*n:=by
        simp[Builtin.zeroCells,hzs]
       rw[e3]
       have e4:(cs1++cs2).toArray.size=(as.length+bs.length)*n:=by simpa using hcslen
       rw[e4,<- Nat.add_mul]
       exact Nat.mul_le_mul_right _ (by omega)) (by rw[hlen];exact hcap) hd hf1
    rw[hlen]at hres⊢
    exact⟨_,_,A,_,lam,.inl hex,hres⟩
   split at he
   ·simp only[Option.some.injEq]at he;subst he
    simp only[rowsOf,Option.some.injEq]at has;subst has
    have hc0:cap1=0:=by
     rw[e1]at r1
     obtain⟨_,h⟩:=r1.t_inv.nils_inv
     cases h;rfl
    have:=grow (by simp;omega) s R hk hn hf (rr1.append rr2)
    simpa using this
   ·-- a clipped slice:a new block that is never written again
    rename_i es
    simp only[Option.bind_eq_some_iff,Option.some.injEq]at he
    obtain⟨ts,hts,rfl⟩:=he
    have hc0:cap1=as.length:=by
     rw[e1]at r1
     simp only[rowsOf,Option.some.injEq]at has
     have h2:=RepT.slc_inv r1.t_inv
     rw[<- has,List.length_map];exact h2.2
    have hgt: ¬(as.length+bs.length<=cap1):=by omega
    have hrows:=rr1.append rr2
    have src:Src P i.size u (.slice ad2 bs.length cap2) bs.length cs2 w:=
     ⟨.inl ⟨el',hu⟩,fun _=>rfl,by rw[g2];exact F2,by rw[g2];exact F2',by rw[g2];exact rr2.1,rr2.one hn0⟩
    have hneed:as.length+bs.length<=2^32:=hc1
    have hfit:Builtin.nextslicecap (as.length+bs.length) cap1*i.bytes<=281474976710656:=by
     refine growslice_fits (by omega) ?_
     have:=Nat.mul_le_mul hneed hc2
     omega
    have hrun:=run_append_grow_src (P:=P) w t u o.type el i z ht hi hz0 ad1 as.length cap1 cs1 (by rw[g2];exact F1') (.slice ad2 bs.length cap2) bs.length cs2 src (by omega) (by omega) hfit
    rw[hrun]at hex
    have hcap:=grown_le w (as.length+bs.length) cap1 el
    have hrows2:=hrows.evo (evo_drew w A μ s.heap)
    have Rd:=R.drew
    generalize grownCap w (as.length+bs.length) cap1 el=gc at hex hcap
    generalize Builtin.zeroCells z.cells (gc-(as.length+bs.length))=zc at hex
    have hsz:w.drew.heap.size=w.heap.size:=rfl
    generalize w.drew=wd at hex hrows2 Rd hsz
    have hE:=evo_alloc Rd (.cells ((cs1++cs2).toArray++zc) el)
    have hnew:=heap_alloc wd (.cells ((cs1++cs2).toArray++zc) el)
    have hsz1:(wd.alloc (.cells ((cs1++cs2).toArray++zc) el)).heap.size=wd.heap.size+1:=by simp only[World.alloc,Array.size_push]
    have R1:=Rd.alloc (.cells ((cs1++cs2).toArray++zc) el)
    have R2:=R1.growA (fun q=>q=wd.heap.size) (fun q hq t ht=>by have:=Rd.lt_loc ht;omega)
     (fun q hq k o hk hl=>by have:=Rd.lt_live hk hl;omega)
     (fun q hq=> .inr (by have:=Rd.csize;omega)) (fun q hq=>by omega) (Rd.defers.join R1.defers (fun q hq=>by omega))
    obtain⟨m1,m2⟩:=mapM_some hts
    have hbl':0<ts.length:=by rw[<- m1,List.length_append];omega
    have htl:ts.length=as.length+bs.length:=by rw[<- m1,List.length_append]
    have hfin:RepV (wd.alloc (.cells ((cs1++cs2).toArray++zc) el)) (fun r=>A r\/r=wd.heap.size) N.nm μ s.heap (.slice (some ⟨w.heap.size,0,none⟩) (as.length+bs.length) gc) (.t (.sl ts)):=by
     have hE2:=hE.blk
     have hrow: ∀(i1:Nat) (tr:List T),ts[i1]? =some tr-> ∃row,(as++bs)[i1]? =some row/\trees row=some tr:=fun i1 tr h1=>m2 i1 tr h1
     have htr: ∀(row:List V) (tr:List T),trees row=some tr->tr.length=row.length/\ ∀(j:Nat) (y:T),tr[j]? =some y-> ∃y0,row[j]? =some (.t y0)/\y=y0.norm:=by
      intro row
      induction row with
      | nil=>intro tr h1;simp[trees]at h1;subst h1;exact⟨rfl,fun j y h=>by simp at h⟩
      | cons v1 row ih=>
        intro tr h1
        cases v1<;>simp only[trees,reduceCtorEq]at h1
        rename_i y0
        rw[Option.map_eq_some_iff]at h1
        obtain⟨tr',h2,rfl⟩:=h1
        obtain⟨h3,h4⟩:=ih tr' h2
        refine⟨by simp[h3],fun j y hj=> ?_⟩
        cases j with
        | zero=>simp at hj;exact⟨y0,rfl,hj.symm⟩
        | succ j=>simpa using h4 j y (by simpa using hj)
     have hlen: ∀(i1:Nat) (tr:List T),ts[i1]? =some tr->tr.length=n:=fun i1 tr h1=>by
      obtain⟨row,h2,h3⟩:=hrow i1 tr h1
      rw[(htr row tr h3).1];exact hrows2.2.1 i1 row h2
     have hget: ∀(i1:Nat) (tr:List T) (j:Nat) (y:T),ts[i1]? =some tr->tr[j]? =some y-> ∃v,(cs1++cs2)[i1*n+j]? =some v/\RepT wd A N.nm v y:=fun i1 tr j y h1 h4=>by
      obtain⟨row,h2,h3⟩:=hrow i1 tr h1
      obtain⟨y0,h5,rfl⟩:=(htr row tr h3).2 j y h4
      obtain⟨v,h6,h7⟩:=hrows2.2.2 i1 row j _ h2 h5
      cases h7 with
      | t h8=>exact⟨v,h6,h8.norm⟩
     have key:=RepT.sl (w:=wd.alloc (.cells ((cs1++cs2).toArray++zc) el)) (A:=fun r=>A r\/r=wd.heap.size) (nm:=N.nm) wd.heap.size 0 gc n ts
      (fun i1 j=>((cs1++cs2)[i1*n+j]?).getD default) hbl' (by rw[htl];exact hcap) (.inr rfl) hlen ?_ ?_
     ·rw[htl]at key
      rw[<- hsz]
      exact(RepC.t key).toV
     ·intro i1 tr j y h1 h2
      obtain⟨v,h3,_⟩:=hget i1 tr j y h1 h2
      rw[h3]
      simp only[World.cell?,hnew,Nat.zero_add,Option.getD_some]
      rw[Array.getElem?_append_left (by simpa using(List.getElem?_eq_some_iff.1 h3).1)]
      simpa using h3
     ·intro i1 tr j y h1 h2
      obtain⟨v,h3,h4⟩:=hget i1 tr j y h1 h2
      rw[h3,Option.getD_some]
      exact h4.mono hE2 (fun _ h=> .inl h)
    exact⟨_,_,_,μ,lam,.inl hex,R2.put o.dst _ _ hd hf rfl rfl rfl hfin (by simp)⟩
   ·rename_i k j ll
    split at he
    ·rename_i sz' rs hkk
     split at he
     ·rename_i hcc
      obtain⟨rfl,rfl⟩:=hcc
      simp only[Option.some.injEq]at he;subst he
      have hkne:s.bas+p≠k:=by intro h;rw[h]at hk;simp[hkk]at hk
      have hE:Evo w A μ s.heap w A μ (upd s.heap k (some .dead)):=by
       refine⟨fun _ _=>rfl,fun _ h=>h,fun k1 o1 h=> ?_,fun _ _ h=>h⟩
       by_cases e:k1=k
       ·subst e;exact⟨.dead,by simp,by cases o1<;>trivial,fun _=>rfl⟩
       ·exact⟨o1,by rw[upd_other _ _ e];exact h,O.le_refl o1,fun _=>rfl⟩
      have hk1:(upd s.heap k (some .dead)) (s.bas+p)=none:=by rw[upd_other _ _ hkne];exact hk
      have hcap1:rs.length<=cap1:=by
       rw[e1]at r1
       cases(r1:RepC w A N.nm μ s.heap _ _)with
       | ms _ _ _ _ sz2 rs2 frz2 _ hk' hi' hc' ha=>rw[hkk]at hk';cases hk';omega
       | dms _ _ _ hk'=>rw[hkk]at hk';cases hk'
      by_cases hroom:as.length+bs.length<=cap1
      ·-- in place
       rw[e1]at r1
       have hasl:as.length=ll/\as=rs.take ll:=by
        simp only[rowsOf,hkk,rd]at has
        split at has
        ·simp only[List.drop_zero,Option.some.injEq]at has;subst has
         exact⟨by simp;omega,rfl⟩
        ·simp at has
       obtain⟨cc,e0,zz,h1,h2,h3,h4,h5⟩:=R.heap k _ hkk
       have hz1:=h2 rfl
       subst hz1
       obtain⟨hadr,hcapb⟩:ad1=some ⟨μ k,0,none⟩/\cap1*sz'<=cc.size:=by
        cases(r1:RepC w A N.nm μ s.heap _ _)with
        | ms _ _ _ _ sz2 rs2 frz2 _ hk' hi' hc' ha=>
          rw[hkk]at hk';cases hk'
          obtain⟨rfl,e3,n3,hs3,hn3⟩:=ha.resolve_left (by omega)
          simp only[World.shape?,h1,Option.some.injEq,Prod.mk.injEq]at hs3
          obtain⟨_,rfl⟩:=hs3
          exact⟨by simp,by simpa using hn3⟩
        | dms _ _ _ hk'=>rw[hkk]at hk';cases hk'
       subst hadr
       have hcs2:=rr2.1
       have hfit:as.length*sz'+0+cs2.length<=cc.size:=by
        rw[hcs2,Nat.add_zero,<- Nat.add_mul]
        exact Nat.le_trans (Nat.mul_le_mul_right _ hroom) hcapb
       have hst:=run_storeCells_at P (μ k) (as.length*sz') e0 cs2 0 cc w h1 hfit (rr2.one hn0)
       let arr:Array Value:=(cc.toList.take (as.length*sz'+0)++cs2++cc.toList.drop (as.length*sz'+0+cs2.length)).toArray
       have harr:wr cc.toList (as.length*sz') cs2=some arr.toList:=by
        unfold wr
        rw[if_pos (by simpa using hfit)]
        simp[arr]
       obtain⟨j1,j2,j3⟩:=wr_get harr
       have hsz2:arr.size=cc.size:=by simpa using j2
       have R1:=R.kill hkk
       have orph:=R.orphan_kill hkk rfl (by simp)
       have R2:=R1.setOrphan orph h1 hsz2
       have hE2:Evo w A μ (upd s.heap k (some .dead)) (w.setRow (μ k) arr) A μ (upd s.heap k (some .dead)):=
        ⟨fun r hr=>setRow_other w _ r _ (fun e=>orph.a (e▸hr)),fun _ h=>h,fun _ o h=>⟨o,h,O.le_refl o,fun _=>rfl⟩,shape?_setRow h1 hsz2⟩
       have has':as=rs.take as.length:=by rw[hasl.1];exact hasl.2
       obtain⟨al1,al2⟩:=appRows_len as bs rs
       have hobj:HObj (w.setRow (μ k) arr) A N μ (upd s.heap k (some .dead)) (μ k) (.rows sz' (appRows as bs rs) false):=by
        have hrowl: ∀(i1:Nat) (row:List V),(appRows as bs rs)[i1]? =some row->row.length=sz':=by
         intro i1 row hi1
         rcases appRows_get has' hi1 with⟨_,h⟩ | ⟨_,_,h⟩ | ⟨_,h⟩
         ·exact h4 _ row h
         ·exact rr2.2.1 _ row h
         ·exact h4 _ row h
        refine⟨arr,e0,(0,0),setRow_heap w _ cc arr e0 _ h1,fun _=>rfl,?_,hrowl,?_⟩
        ·rw[hsz2]
         rcases al2 with al2 | al2
         ·rw[al2];exact Nat.le_trans (Nat.mul_le_mul_right _ hroom) hcapb
         ·rw[al2];exact h3
        ·intro i1 row j x hi1 hj
         have hrl:=hrowl i1 row hi1
         have hjl:j<sz':=by rw[<- hrl];exact(List.getElem?_eq_some_iff.1 hj).1
         have hget:arr[i1*sz'+j]? =arr.toList[i1*sz'+j]? :=by rw[Array.getElem?_toList]
         rw[hget,j3]
         rcases appRows_get has' hi1 with⟨hlt,hi2⟩ | ⟨hge,hlt,hi2⟩ | ⟨hge,hi2⟩
         ·have:=row_lt hlt hjl
          rw[if_neg (by omega)]
          obtain⟨v,hv,hr⟩:=h5 i1 row j x hi2 hj
          exact⟨v,by simpa using hv,(hr.evo hE).evo hE2⟩
         ·have hil:i1-as.length<bs.length:=(List.getElem?_eq_some_iff.1 hi2).1
          have e5:i1*sz'=as.length*sz'+(i1-as.length)*sz':=by rw[<- Nat.add_mul];congr 1;omega
          have:=row_lt hil hjl
          rw[if_pos (by rw[hcs2];omega)]
          obtain⟨v,hv,hr⟩:=rr2.2.2 _ row j x hi2 hj
          refine⟨v,?_,(hr.evo hE).evo hE2⟩
          have e6:i1*sz'+j-as.length*sz'=(i1-as.length)*sz'+j:=by omega
          rw[e6];exact hv
         ·have:=Nat.mul_le_mul_right sz' hge
          rw[Nat.add_mul]at this
          rw[if_neg (by rw[hcs2];omega)]
          obtain⟨v,hv,hr⟩:=h5 i1 row j x hi2 hj
          exact⟨v,by simpa using hv,(hr.evo hE).evo hE2⟩
       have R3:=R2.adoptH (k:=s.bas+p) hk1 hn orph hobj (by simp)
       have hrun:=run_app1 (P:=P) (ty:=o.type) (w':=w.setRow (μ k) arr) ht hu hi g2 ⟨ad2,cap2,rfl⟩ hroom F2 (base:=some ⟨μ k,0,none⟩) (fun ad h=>by
        cases h
        rw[addr_add,Nat.zero_add]
        exact hst) (fun h=>by simp at h)
       rw[hrun]at hex
       refine⟨_,_,A,_,lam,.inl hex,R3.put o.dst { val:=.ms (s.bas+p) 0 (as.length+bs.length) } _ hd hf rfl rfl rfl ?_ (by simp)⟩
       have hshape:(w.setRow (μ k) arr).shape? (μ k)=some (e0,cc.size):=by
        unfold World.shape?
        rw[setRow_heap w _ cc arr e0 _ h1]
        simp[hsz2]
       have:=RepC.ms (w:=w.setRow (μ k) arr) (A:=A) (nm:=N.nm) (μ:=upd μ (s.bas+p) (μ k)) (H:=upd (upd s.heap k (some .dead)) (s.bas+p) (some (.rows sz' (appRows as bs rs) false))) (s.bas+p) 0 (as.length+bs.length) cap1 sz' (appRows as bs rs) false
        (some ⟨μ k,0,none⟩) (by simp) (by omega) (by rcases al2 with al2 | al2<;>omega) (.inr ⟨by simp,e0,cc.size,by simpa using hshape,by simpa using hcapb⟩)
       exact this.toV
      ·have:=grow hroom { s with heap:=upd s.heap k (some .dead) } (R.kill hkk) hk1 hn hf ((rr1.append rr2).evo hE)
       rw[List.length_append]at this
       rw[show appRows as bs rs=as++bs from if_pos (by omega)]
       exact this
     ·simp at he
    ·simp at he
   ·simp at he
 ·simp at he
theorem run_append_zeros (w:World) (t tx ty e:TypeId) (i:TypeInfo) (z:Value) (k k':IntKind) (ht:P.underlying t=some (.slice e)) (hi:P.info? e=some i) (hz:i.zero=some z) (hk:P.underlying tx=some (.int k)) (base:Option Addr) (m:Nat) (hm:1<=m) (hs:0<i.size)
 (hw:IntKind.i64.wrap (m:Int)=m) (h63:(m:Int)<=9223372036854775807) (hb: ¬((m:Int)*i.bytes>2^48)) (hfit:Builtin.nextslicecap m 0*i.bytes<=281474976710656):
 (Builtin.append_ #[t,tx] ty #[.slice base 0 0,.int k' m]).run P w=
   .ok (.slice (some ⟨w.heap.size,0,none⟩) m (grownCap w m 0 e)) (w.drew.alloc (.cells (Builtin.zeroCells z.cells m++Builtin.zeroCells z.cells (grownCap w m 0 e-m)) e)):=by
 have h1: ¬((m:Int)<0):=by omega
 have h3: ¬(9223372036854775807<(m:Int)):=by omega
 have h4: ¬(281474976710656<Builtin.nextslicecap m 0*i.bytes):=by omega
 have h5: ¬(m=0):=by omega
 have h7: ¬(m*i.size=0):=by
  intro h
  rcases Nat.mul_eq_zero.1 h with h | h<;>omega
 have h6: ¬(281474976710656<(m:Int)*i.bytes):=by simpa using hb
 have h0:(Builtin.firstCells i.size 0 (.slice base 0 0)).run P w.drew= .ok #[] w.drew:=by
  cases base with
  | none=>exact run_firstCells_none w.drew i.size 0 0 0
  | some ad=>exact run_firstCells_some w.drew i.size 0 ad 0 0 [] (by simp) (by simp)
 simp[Builtin.append_,run_underlying ht,run_underlying hk,Go.sizeOf,typeInfo,zeroValue,hi,hz,asInt,asIntOf,hw,h1,h3,h4,h5,h6,h7,h0,Question.forced,newRow,grownCap]
theorem s_appz (hI:I.Ok N) (R:Rel N c ns A μ lam s a w) {cl:Call} {t u el:TypeId} {k:IntKind} {n:Nat} {ag:Bool} {i:TypeInfo} {x y:Operand} {x' y':Opd} {zl:List V}
 (hx:opd I x=some x') (hy:opd I y=some y') (ht:P.underlying t=some (.slice el)) (hu:P.underlying u=some (.int k)) (hty:typ P el=some (ag,n)) (hi:P.info? el=some i) (hz:zeroOf P el=some zl) (hn0:0<n)
 (ho:o.op= .call cl) (hb:cl.callee= .builtin .append) (hat:cl.argTypes= #[t,u]) (hag:cl.args= #[x,y])
 (hd: ∀x,o.dst=some x->x<ns) (hf:s.free o.dst e) (hk:s.heap (s.bas+p)=none) (hn:s.bas+p<s.nxt) (he:aeval N.G p s (.appz n i.bytes zl x' y')=some e):Sound P N c ns o a w (s.apply o.dst e):=by
 have hex:=exec_append (P:=P) (w:=w) (a:=a) ho hb
 rw[hat,hag]at hex
 simp only[List.map_toArray,List.map_cons,List.map_nil]at hex
 obtain⟨inf,g1,g2,g3,g4⟩:=typ_spec hty
 rw[hi]at g1;cases g1
 obtain⟨i',z,hi',hz0,hzc,hzrun⟩:=zeroOf_spec hz
 rw[hi]at hi';cases hi'
 simp only[aeval,Option.bind_eq_bind,Option.bind_eq_some_iff]at he
 obtain⟨m,hm,v,hv,he⟩:=he
 split at he
 ·split at he
  ·rename_i hc
   obtain⟨c1,c2,c3,c4⟩:=hc
   simp only[Option.some.injEq]at he;subst he
   obtain⟨km,hkm⟩:=int_eval hI R hy hm
   obtain⟨ad,hnil⟩: ∃ad,a.eval x= .slice ad 0 0:=by
    have h:=(opd_eval hI R hx hv).t_inv
    generalize a.eval x=q at h
    cases h;exact⟨_,rfl⟩
   obtain⟨q,rfl⟩: ∃q:Nat,m=q:=⟨m.toNat,by omega⟩
   rw[hnil,hkm]at hex
   have hbig: ¬((q:Int)*i.bytes>2^48):=by
    have h1:(q:Int)*i.bytes<=2^32*2^12:=Int.mul_le_mul c2 (by omega) (by omega) (by omega)
    omega
   have hfit:Builtin.nextslicecap q 0*i.bytes<=281474976710656:=by
    refine growslice_fits (by omega) ?_
    have:=Nat.mul_le_mul (show q<=2^32 by omega) c3
    omega
   have hrun:=run_append_zeros (P:=P) w t u o.type el i z k km ht hi hz0 hu ad q (by omega) (by omega) (wrap_small (by omega) c2) (by omega) hbig hfit
   rw[hrun]at hex
   have hzs:z.cells.size=n:=by have:=(cellsOf_rep (w:=w) (A:=A) (nm:=N.nm) (μ:=μ) (H:=s.heap) hzc).1;simp at this;omega
   have hrows:RowsRep w A N.nm μ s.heap n (Builtin.zeroCells z.cells q).toList (List.replicate q zl):=RowsRep.replicate (cellsOf_rep hzc) c4 q _ (by simp[hzs])
   have hcap:=grown_le w q 0 el
   have hres:=newS R.drew (t:=el) (cap:=grownCap w q 0 el) (d:=o.dst) (cells:=Builtin.zeroCells z.cells q++Builtin.zeroCells z.cells (grownCap w q 0 el-q)) hk hn (hrows.evo (evo_drew w A μ s.heap)) (fun j v hj=>by
    rw[Array.getElem?_toList]at hj
    rw[Array.getElem?_append_left (Array.getElem?_eq_some_iff.1 hj).1]
    exact hj) (by
    rw[Array.size_append]
    simp only[Builtin.zeroCells,hzs,Array.size_map,Array.size_range]
    rw[<- Nat.add_mul]
    exact Nat.mul_le_mul_right _ (by omega)) (by simp;exact hcap) hd hf
   simp only[List.length_replicate,Int.toNat_natCast]at hres⊢
   exact⟨_,_,A,_,lam,.inl hex,hres⟩
  ·simp at he
 ·simp at he
theorem s_copy (hI:I.Ok N) (R:Rel N c ns A μ lam s a w) {cl:Call} {t u el:TypeId} {n:Nat} {ag:Bool} {x y:Operand} {x' y':Opd}
 (hx:opd I x=some x') (hy:opd I y=some y') (ht:P.underlying t=some (.slice el)) (hty:typ P el=some (ag,n)) (hn0:0<n)
 (ho:o.op= .call cl) (hb:cl.callee= .builtin .copy) (hat:cl.argTypes= #[t,u]) (hag:cl.args= #[x,y])
 (hd: ∀x,o.dst=some x->x<ns) (hf:s.free o.dst e) (he:aeval N.G p s (.copy n x' y')=some e):Sound P N c ns o a w (s.apply o.dst e):=by
 have hex:=exec_copy (P:=P) (w:=w) (a:=a) ho hb
 rw[hat,hag]at hex
 simp only[List.map_toArray,List.map_cons,List.map_nil]at hex
 obtain⟨inf,g1,g2,g3,g4⟩:=typ_spec hty
 simp only[aeval,Option.bind_eq_bind,Option.bind_eq_some_iff]at he
 obtain⟨v1,hv1,v2,hv2,bs,hbs,he⟩:=he
 have r1:=opd_eval hI R hx hv1
 have r2:=opd_eval hI R hy hv2
 obtain⟨ad2,cap2,e2⟩: ∃ad cap,a.eval y= .slice ad bs.length cap:=by
  refine r2.len_inv ?_
  unfold rowsOf at hbs
  unfold lenOf
  split at hbs
  ·simp only[Option.some.injEq]at hbs;subst hbs;rfl
  ·simp only[Option.some.injEq]at hbs;subst hbs;simp
  ·simp only[Option.some.injEq]at hbs;subst hbs;simp
  ·split at hbs
   ·unfold rd at hbs
    split at hbs
    ·simp only[Option.some.injEq]at hbs;subst hbs;simp;omega
    ·simp at hbs
   ·simp at hbs
  ·simp at hbs
 have hzero: ∀w:World,(Builtin.firstCells n 0 (a.eval y)).run P w= .ok #[] w:=by
  intro w
  rw[e2]
  cases ad2 with
  | none=>simp[Builtin.firstCells]
  | some ad=>simp[Builtin.firstCells,loadCells,loadCellsFrom]
 split at he
 ·simp only[Option.some.injEq]at he;subst he
  obtain⟨ad1,e1⟩:=r1.t_inv.nils_inv
  refine⟨goInt 0,w,A,μ,lam,.inl ?_,R.put o.dst _ _ hd hf rfl rfl rfl (RepC.t (.int _ _)).toV (by simp)⟩
  rw[hex]
  have hz':=hzero w
  rw[e2]at hz'
  rw[e1,e2]
  cases ad1 with
  | none=>simp[Builtin.copy_,run_und ht,Builtin.lenOf,run_size g1,g2,hz']
  | some ad=>simp[Builtin.copy_,run_und ht,Builtin.lenOf,run_size g1,g2,hz',storeCells]
 ·rename_i k i len
  split at he
  ·rename_i sz' rs hkk
   split at he
   ·rename_i hcc
    obtain⟨rfl,hall⟩:=hcc
    simp only[Option.bind_eq_some_iff,Option.some.injEq]at he
    obtain⟨rs',hw,rfl⟩:=he
    obtain⟨ad2',cap2',cs2,e2',l2,rr2,f2⟩:=first_cells (P:=P) R r2 hbs hall
    obtain⟨cc,e0,zz,h1,h2,h3,h4,h5⟩:=R.heap k _ hkk
    have hz1:=h2 rfl
    subst hz1
    obtain⟨q1,q2,q3⟩:=wr_get hw
    obtain⟨base,cap,e1,hbase⟩: ∃base cap,a.eval x= .slice base len cap/\(0<len->base=some ⟨μ k,i*sz',none⟩):=by
     generalize a.eval x=v at r1
     cases(r1:RepC w A N.nm μ s.heap v _)with
     | ms _ _ _ cap sz2 rs2 frz2 ad hk' hi' hc' ha=>
       rw[hkk]at hk';cases hk'
       refine⟨ad,cap,rfl,fun hl=> ?_⟩
       exact(ha.resolve_left (by omega)).1
     | dms _ _ _ hk'=>rw[hkk]at hk';cases hk'
    have hmin:min bs.length len<=bs.length:=Nat.min_le_left _ _
    have F2:=f2 w (fun _=>rfl) (min bs.length len) hmin
    have htl:(bs.take len).length=min bs.length len:=by simp[Nat.min_comm]
    have hpre:(cs2.take (min bs.length len*sz')).length=min bs.length len*sz':=by
     rw[List.length_take,rr2.1]
     exact Nat.min_eq_left (Nat.mul_le_mul_right _ hmin)
    have hfit:i*sz'+0+(cs2.take (min bs.length len*sz')).length<=cc.size:=by
     rw[hpre,Nat.add_zero,<- Nat.add_mul]
     refine Nat.le_trans (Nat.mul_le_mul_right _ ?_) h3
     rw[<- htl];exact q1
    have hst:=run_storeCells_at P (μ k) (i*sz') e0 (cs2.take (min bs.length len*sz')) 0 cc w h1 hfit (fun v hv=>rr2.one hn0 v (List.mem_of_mem_take hv))
    let arr:Array Value:=(cc.toList.take (i*sz'+0)++cs2.take (min bs.length len*sz')++cc.toList.drop (i*sz'+0+(cs2.take (min bs.length len*sz')).length)).toArray
    have harr:wr cc.toList (i*sz') (cs2.take (min bs.length len*sz'))=some arr.toList:=by
     unfold wr
     rw[if_pos (by simpa using hfit)]
     simp[arr]
    obtain⟨j1,j2,j3⟩:=wr_get harr
    have hsz2:arr.size=cc.size:=by simpa using j2
    have R1:=R.changeH (o':= .rows sz' rs' false) (w':=w.setRow (μ k) arr) hkk ⟨rfl,q2⟩ rfl (by simp) (by simp) rfl (by simp) (fun r hr=>setRow_other w _ r _ hr)
     (shape?_setRow h1 hsz2) (fun E=>by
       refine⟨arr,e0,(0,0),setRow_heap w _ cc arr e0 _ h1,fun _=>rfl,by rw[hsz2,q2];exact h3,?_,?_⟩
       ·intro i1 row hr1
        rw[q3 i1]at hr1
        split at hr1
        ·rw[List.getElem?_take]at hr1
         split at hr1
         ·exact rr2.2.1 _ row hr1
         ·simp at hr1
        ·exact h4 i1 row hr1
       ·intro i1 row j x hr1 hj
        have hget:arr[i1*sz'+j]? =arr.toList[i1*sz'+j]? :=by rw[Array.getElem?_toList]
        rw[hget,j3]
        rw[q3 i1]at hr1
        split at hr1
        ·rename_i hin
         rw[List.getElem?_take]at hr1
         split at hr1
         ·rename_i hlt
          have hjl:j<sz':=by rw[<- rr2.2.1 _ row hr1];exact(List.getElem?_eq_some_iff.1 hj).1
          have hb1:i1-i<min bs.length len:=by rw[htl]at hin;omega
          have:=row_lt hb1 hjl
          have e5:i1*sz'=i*sz'+(i1-i)*sz':=by rw[<- Nat.add_mul];congr 1;omega
          rw[if_pos (by rw[hpre];omega)]
          obtain⟨v,hv,hr⟩:=rr2.2.2 _ row j x hr1 hj
          refine⟨v,?_,hr.evo E⟩
          have e6:i1*sz'+j-i*sz'=(i1-i)*sz'+j:=by omega
          rw[e6,List.getElem?_take,if_pos this];exact hv
         ·simp at hr1
        ·rename_i hin
         have hjl:j<sz':=by rw[<- h4 _ row hr1];exact(List.getElem?_eq_some_iff.1 hj).1
         obtain⟨v,hv,hr⟩:=h5 i1 row j x hr1 hj
         rw[if_neg]
         ·exact⟨v,by simpa using hv,hr.evo E⟩
         ·rw[hpre]
          intro hh
          rw[htl]at hin
          rcases Nat.lt_or_ge i1 i with hlt | hge
          ·have:=Nat.mul_le_mul_right sz' (Nat.succ_le_of_lt hlt)
           rw[Nat.succ_mul]at this;omega
          ·have hge2:i+min bs.length len<=i1:=by omega
           have:=Nat.mul_le_mul_right sz' hge2
           rw[Nat.add_mul]at this;omega)
    have hnone:base=none->w.setRow (μ k) arr=w:=by
     intro hb0
     have hl0:len=0:=by
      rcases Nat.eq_zero_or_pos len with h | h
      ·exact h
      ·rw[hbase h]at hb0;simp at hb0
     subst hl0
     have:arr=cc:=by
      apply Array.ext'
      simp[arr]
     rw[this];exact setRow_self w _ cc e0 _ h1
    refine⟨goInt (min bs.length len:Nat),w.setRow (μ k) arr,A,μ,lam,.inl ?_,R1.put o.dst { val:=.t (.int .i64 (min bs.length len:Nat)) } _ hd hf rfl rfl rfl (RepC.t (.int _ _)).toV (by simp)⟩
    rw[hex,e1]
    rw[e2]at F2⊢
    cases base with
    | none=>
      rw[hnone rfl]
      simp only[Builtin.copy_,List.getElem?_toArray,List.getElem?_cons_zero,List.getElem?_cons_succ,Sem.run_bind,run_und ht,Result.andThen_ok,Builtin.lenOf,Sem.run_pure,run_size g1,g2]
      rw[show Nat.min bs.length len=min bs.length len from rfl,F2]
      rfl
    | some ad=>
      rcases Nat.eq_zero_or_pos len with hl | hl
      ·subst hl
       have harr0:w.setRow (μ k) arr=w:=by
        have:arr=cc:=by
         apply Array.ext'
         simp[arr]
        rw[this];exact setRow_self w _ cc e0 _ h1
       rw[harr0]
       simp only[Builtin.copy_,List.getElem?_toArray,List.getElem?_cons_zero,List.getElem?_cons_succ,Sem.run_bind,run_und ht,Result.andThen_ok,Builtin.lenOf,Sem.run_pure,run_size g1,g2]
       rw[show Nat.min bs.length 0=min bs.length 0 from rfl,F2]
       simp[storeCells]
      ·have:=hbase hl
       cases this
       simp only[Builtin.copy_,List.getElem?_toArray,List.getElem?_cons_zero,List.getElem?_cons_succ,Sem.run_bind,run_und ht,Result.andThen_ok,Builtin.lenOf,Sem.run_pure,run_size g1,g2]
       rw[show Nat.min bs.length len=min bs.length len from rfl,F2]
       simp only[Result.andThen_ok]
       rw[hst]
       rfl
   ·simp at he
  ·simp at he
 ·simp at he
theorem exec_clear {cl:Call} (ho:o.op= .call cl) (hb:cl.callee= .builtin .clear):
 (execOp a.eval o).run P w=((Builtin.clear_ cl.argTypes o.type (cl.args.map a.eval)).run P w).andThen fun v w'=> .ok (.value v) w':=by
 simp[execOp,ho,resolve,hb,invoke,builtin]
theorem s_clear (hI:I.Ok N) (R:Rel N c ns A μ lam s a w) {cl:Call} {t el:TypeId} {n:Nat} {ag:Bool} {x:Operand} {x':Opd} {z:List V}
 (hx:opd I x=some x') (ht:P.underlying t=some (.slice el)) (hty:typ P el=some (ag,n)) (hn0:0<n) (hz:zeroOf P el=some z) (hzl:z.length=n)
 (ho:o.op= .call cl) (hb:cl.callee= .builtin .clear) (hat:cl.argTypes= #[t]) (hag:cl.args= #[x])
 (hd: ∀x,o.dst=some x->x<ns) (hf:s.free o.dst e) (he:aeval N.G p s (.clear n z x')=some e):Sound P N c ns o a w (s.apply o.dst e):=by
 have hex:=exec_clear (P:=P) (w:=w) (a:=a) ho hb
 rw[hat,hag]at hex
 simp only[List.map_toArray,List.map_cons,List.map_nil]at hex
 obtain⟨i',zv,hi',hz0,hzc,hzrun⟩:=zeroOf_spec hz
 have hzs:zv.cells.size=n:=by have:=(cellsOf_rep (w:=w) (A:=A) (nm:=N.nm) (μ:=μ) (H:=s.heap) hzc).1;simp at this;omega
 simp only[aeval,Option.bind_eq_bind,Option.bind_eq_some_iff]at he
 obtain⟨v1,hv1,he⟩:=he
 have r1:=opd_eval hI R hx hv1
 split at he
 ·simp only[Option.some.injEq]at he;subst he
  obtain⟨ad1,e1⟩:=r1.t_inv.nils_inv
  refine⟨.tuple #[],w,A,μ,lam,.inl ?_,R.put o.dst _ _ hd hf rfl rfl rfl ⟨#[],rfl,rfl,by simp⟩ (by simp)⟩
  rw[hex,e1]
  cases ad1<;>simp[Builtin.clear_,run_und ht]
 ·rename_i k i len
  split at he
  ·rename_i sz' rs hkk
   split at he
   ·rename_i hcc
    obtain⟨hsz',_⟩:=hcc
    subst hsz'
    simp only[Option.bind_eq_some_iff,Option.some.injEq]at he
    obtain⟨rs',hw,rfl⟩:=he
    obtain⟨cc,e0,zz,h1,h2,h3,h4,h5⟩:=R.heap k _ hkk
    have hz1:=h2 rfl
    subst hz1
    obtain⟨q1,q2,q3⟩:=wr_get hw
    obtain⟨base,cap,e1,hbase⟩: ∃base cap,a.eval x= .slice base len cap/\(0<len->base=some ⟨μ k,i*sz',none⟩):=by
     generalize a.eval x=v at r1
     cases(r1:RepC w A N.nm μ s.heap v _)with
     | ms _ _ _ cap sz2 rs2 frz2 ad hk' hi' hc' ha=>
       rw[hkk]at hk';cases hk'
       refine⟨ad,cap,rfl,fun hl=> ?_⟩
       exact(ha.resolve_left (by omega)).1
     | dms _ _ _ hk'=>rw[hkk]at hk';cases hk'
    have rr2:RowsRep w A N.nm μ s.heap sz' (Builtin.zeroCells zv.cells len).toList (List.replicate len z):=RowsRep.replicate (cellsOf_rep hzc) hzl len _ (by rw[hzs])
    generalize hcs:(Builtin.zeroCells zv.cells len).toList=cs2 at rr2
    have hcl:cs2.length=len*sz':=by rw[rr2.1];simp
    simp only[List.length_replicate]at q1 q3
    have hfit:i*sz'+0+cs2.length<=cc.size:=by
     rw[hcl,Nat.add_zero,<- Nat.add_mul]
     exact Nat.le_trans (Nat.mul_le_mul_right _ q1) h3
    have hst:=run_storeCells_at P (μ k) (i*sz') e0 cs2 0 cc w h1 hfit (rr2.one hn0)
    let arr:Array Value:=(cc.toList.take (i*sz'+0)++cs2++cc.toList.drop (i*sz'+0+cs2.length)).toArray
    have harr:wr cc.toList (i*sz') cs2=some arr.toList:=by
     unfold wr
     rw[if_pos (by simpa using hfit)]
     simp[arr]
    obtain⟨j1,j2,j3⟩:=wr_get harr
    have hsz2:arr.size=cc.size:=by simpa using j2
    have R1:=R.changeH (o':= .rows sz' rs' false) (w':=w.setRow (μ k) arr) hkk ⟨rfl,q2⟩ rfl (by simp) (by simp) rfl (by simp) (fun r hr=>setRow_other w _ r _ hr)
     (shape?_setRow h1 hsz2) (fun E=>by
       refine⟨arr,e0,(0,0),setRow_heap w _ cc arr e0 _ h1,fun _=>rfl,by rw[hsz2,q2];exact h3,?_,?_⟩
       ·intro i1 row hr1
        rw[q3 i1]at hr1
        split at hr1
        ·exact rr2.2.1 _ row hr1
        ·exact h4 i1 row hr1
       ·intro i1 row j x hr1 hj
        have hget:arr[i1*sz'+j]? =arr.toList[i1*sz'+j]? :=by rw[Array.getElem?_toList]
        rw[hget,j3]
        rw[q3 i1]at hr1
        split at hr1
        ·rename_i hin
         have hjl:j<sz':=by rw[<- rr2.2.1 _ row hr1];exact(List.getElem?_eq_some_iff.1 hj).1
         have hb1:i1-i<len:=by omega
         have:=row_lt hb1 hjl
         have e5:i1*sz'=i*sz'+(i1-i)*sz':=by rw[<- Nat.add_mul];congr 1;omega
         rw[if_pos (by rw[hcl];omega)]
         obtain⟨v,hv,hr⟩:=rr2.2.2 _ row j x hr1 hj
         refine⟨v,?_,hr.evo E⟩
         have e6:i1*sz'+j-i*sz'=(i1-i)*sz'+j:=by omega
         rw[e6];exact hv
        ·rename_i hin
         have hjl:j<sz':=by rw[<- h4 _ row hr1];exact(List.getElem?_eq_some_iff.1 hj).1
         obtain⟨v,hv,hr⟩:=h5 i1 row j x hr1 hj
         rw[if_neg]
         ·exact⟨v,by simpa using hv,hr.evo E⟩
         ·rw[hcl]
          intro hh
          rcases Nat.lt_or_ge i1 i with hlt | hge
          ·have:=Nat.mul_le_mul_right sz' (Nat.succ_le_of_lt hlt)
           rw[Nat.succ_mul]at this;omega
          ·have hge2:i+len<=i1:=by omega
           have:=Nat.mul_le_mul_right sz' hge2
           rw[Nat.add_mul]at this;omega)
    refine⟨.tuple #[],w.setRow (μ k) arr,A,μ,lam,.inl ?_,R1.put o.dst { val:=.tup [] } _ hd hf rfl rfl rfl ⟨#[],rfl,rfl,by simp⟩ (by simp)⟩
    rw[hex,e1]
    rcases Nat.eq_zero_or_pos len with hl | hl
    ·subst hl
     have hc0:cs2=[]:=List.length_eq_zero_iff.1 (by simpa using hcl)
     have harr0:w.setRow (μ k) arr=w:=by
      have:arr=cc:=by
       apply Array.ext'
       simp[arr,hc0]
      rw[this];exact setRow_self w _ cc e0 _ h1
     rw[harr0]
     cases base<;>simp[Builtin.clear_,run_und ht]
    ·have:=hbase hl
     subst this
     obtain⟨m,rfl⟩:=Nat.exists_eq_succ_of_ne_zero (Nat.ne_of_gt hl)
     simp only[Builtin.clear_,List.getElem?_toArray,List.getElem?_cons_zero,Sem.run_bind,run_und ht,Result.andThen_ok,hzrun,Sem.run_pure,Nat.succ_eq_add_one]
     rw[show(Builtin.zeroCells zv.cells (m+1)).toList=cs2 from hcs]
     rw[hst]
     rfl
   ·simp at he
  ·simp at he
 ·simp at he
end
end Rg
end
