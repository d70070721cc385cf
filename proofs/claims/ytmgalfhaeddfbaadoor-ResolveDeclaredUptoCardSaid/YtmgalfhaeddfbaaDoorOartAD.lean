/- Part of the proof of laws of relyguardlaw04. No condition. -/
import Derived.Deep.AppendSrc
import Derived.Test.YtmgalfhaeddfbaaDoorOartAC
set_option linter.unusedVariables false
set_option linter.unusedSimpArgs false
section
namespace Rg
open Go
section
variable {P:Program} {w:World}
theorem zoX {t u el el' ty:TypeId} {i:TypeInfo} {base:Option Addr} {v:Value} {sLen sCap n sz:Nat} {new:Array Value} {w':World} (ht:P.underlying t=some (.slice el)) (hu:P.underlying u=some (.slice el'))
 (hi:P.info? el=some i) (AS:i.size=sz) (hv: ∃ad cap,v= .slice ad n cap) (A5:sLen+n<=sCap) (B2:(Builtin.firstCells sz n v).run P w= .ok new w)
 (AE: ∀ad,base=some ad->(storeCells (ad.add (sLen*sz)) new.toList).run P w= .ok () w') (hb:base=none->w'=w):
 (Builtin.append_ #[t,u] ty #[.slice base sLen sCap,v]).run P w= .ok (.slice base (sLen+n) sCap) w':=by
 obtain⟨ad,cap,rfl⟩:=hv
 cases base with
 | none=>
   have:=hb rfl;subst this
   simp[Builtin.append_,zau ht,zau hu,zaO hi,AS,Builtin.lenOf,A5,B2]
 | some b=>
   simp[Builtin.append_,zau ht,zau hu,zaO hi,AS,Builtin.lenOf,A5,B2,AE b rfl]
end
theorem zjM {α:Type} {as bs rs:List α} {i:Nat} {row:α} (Dt:as=rs.take as.length) (h:(zbU as bs rs)[i]? =some row):
 (i<as.length/\rs[i]? =some row)\/(as.length<=i/\i<as.length+bs.length/\bs[i-as.length]? =some row)\/(as.length+bs.length<=i/\rs[i]? =some row):=by
 have h1:(as++bs)[i]? =some row->(i<as.length/\rs[i]? =some row)\/(as.length<=i/\i<as.length+bs.length/\bs[i-as.length]? =some row):=by
  intro h;rw[List.getElem?_append]at h;split at h
  ·rename_i Ad;left;refine⟨Ad,?_⟩;have e:as[i]? =(rs.take as.length)[i]? :=congrArg (fun l=>l[i]?) Dt;rw[e,zO,if_pos Ad]at h;exact h
  ·rename_i Bv;right;have:=(zH.1 h).1;exact⟨by omega,by omega,h⟩
 unfold zbU at h;split at h
 ·rcases h1 h with h | h
  ·exact .inl h
  ·exact .inr (.inl h)
 ·rw[List.getElem?_append]at h;split at h
  ·rcases h1 h with h | h
   ·exact .inl h
   ·exact .inr (.inl h)
  ·rename_i Bv;rw[zM]at Bv h;rw[List.getElem?_drop]at h;exact .inr (.inr ⟨by omega,by rw[<- h];congr 1;omega⟩)
theorem zoy {α:Type} (as bs rs:List α):as.length+bs.length<=(zbU as bs rs).length/\((zbU as bs rs).length=as.length+bs.length\/(zbU as bs rs).length=rs.length):=by
 unfold zbU;split
 ·rw[zM];exact⟨Nat.le_refl _,.inl rfl⟩
 ·rw[zM,zM,List.length_drop];exact⟨by omega,.inr (by omega)⟩
theorem zly (w:World) (need old:Nat) (e:TypeId):need<=grownCap w need old e:=by
 simp[grownCap,Question.cut]
section
variable {P:Program} {N:Nam} {I:Inv} {c:Ctx} {ns p:Nat} {A:Nat->Prop} {μ lam:Nat->Nat} {s:St} {a:Act} {w:World} {e:Eff} {o:Oper}
theorem zjp {cl:Call} (ho:o.op= .call cl) (hb:cl.callee= .builtin .append):
 (execOp a.eval o).run P w=((Builtin.append_ cl.argTypes o.type (cl.args.map a.eval)).run P w).andThen fun v w'=> .ok (.value v) w':=by
 simp[execOp,ho,resolve,hb,invoke,builtin]
theorem zsP {cl:Call} (ho:o.op= .call cl) (hb:cl.callee= .builtin .copy):
 (execOp a.eval o).run P w=((Builtin.copy_ cl.argTypes o.type (cl.args.map a.eval)).run P w).andThen fun v w'=> .ok (.value v) w':=by
 simp[execOp,ho,resolve,hb,invoke,builtin]
theorem zu4 {cl:Call} (ho:o.op= .call cl) (hb:cl.callee= .builtin .max):
 (execOp a.eval o).run P w=((Builtin.max_ cl.argTypes o.type (cl.args.map a.eval)).run P w).andThen fun v w'=> .ok (.value v) w':=by
 simp[execOp,ho,resolve,hb,invoke,builtin]
theorem zu3 {cl:Call} (ho:o.op= .call cl) (hb:cl.callee= .builtin .min):
 (execOp a.eval o).run P w=((Builtin.min_ cl.argTypes o.type (cl.args.map a.eval)).run P w).andThen fun v w'=> .ok (.value v) w':=by
 simp[execOp,ho,resolve,hb,invoke,builtin]
theorem zu6 {cl:Call} (ho:o.op= .call cl) (hb:cl.callee= .builtin .cap):
 (execOp a.eval o).run P w=((Builtin.cap_ cl.argTypes o.type (cl.args.map a.eval)).run P w).andThen fun v w'=> .ok (.value v) w':=by
 simp[execOp,ho,resolve,hb,invoke,builtin]
theorem zu5 {cl:Call} (ho:o.op= .call cl) (hb:cl.callee= .builtin .len):
 (execOp a.eval o).run P w=((Builtin.len_ cl.argTypes o.type (cl.args.map a.eval)).run P w).andThen fun v w'=> .ok (.value v) w':=by
 simp[execOp,ho,resolve,hb,invoke,builtin]
theorem znc (w:World): ∀ad,w.drew.cell? ad=w.cell? ad:=fun _=>rfl
theorem zlI (w:World) (A:Nat->Prop) (μ:Nat->Nat) (H:Nat->Option O):Evo w A μ H w.drew A μ H:=
 ⟨fun _ _=>rfl,fun _ h=>h,fun _ o h=>⟨o,h,O.le_refl o,fun _=>rfl⟩,fun _ _ h=>h⟩
theorem zt7 (hI:I.Ok N) (R:Rel N c ns A μ lam s a w) {cl:Call} {t u el el':TypeId} {n:Nat} {ag:Bool} {i:TypeInfo} {x y:Operand} {x' y':Opd} {zl:List V}
 (hx:opd I x=some x') (hy:opd I y=some y') (ht:P.underlying t=some (.slice el)) (hu:P.underlying u=some (.slice el')) (A4:typ P el=some (ag,n)) (hi:P.info? el=some i) (hz:zdc P el=some zl) (Hr:zl.length=n) (Cg:0<n)
 (ho:o.op= .call cl) (hb:cl.callee= .builtin .append) (Bj:cl.argTypes= #[t,u]) (Dh:cl.args= #[x,y])
 (hd: ∀x,o.dst=some x->x<ns) (hf:s.free o.dst e) (hk:s.heap (s.bas+p)=none) (hn:s.bas+p<s.nxt) (he:zaj N.G p s (.append n i.bytes x' y')=some e):zeB P N c ns o a w (s.apply o.dst e):=by
 have AP:=zjp (P:=P) (w:=w) (a:=a) ho hb;rw[Bj,Dh]at AP;simp only[List.map_toArray,List.map_cons,List.map_nil]at AP;obtain⟨inf,g1,g2,g3,g4⟩:=zbr A4;rw[hi]at g1;cases g1;obtain⟨i',z,AK,Ip,IO,Gi⟩:=zb4 hz;rw[hi]at AK;cases AK;have Io:z.cells.size=n:=by have:=(zbT (w:=w) (A:=A) (nm:=N.nm) (μ:=μ) (H:=s.heap) IO).1;simp at this;omega
 simp only[zaj,zC,zB]at he;obtain⟨v1,AX,v2,DT,as,Dt,bs,Ay,he⟩:=he;split at he
 ·rename_i hc;obtain⟨⟨Dr,CG⟩,Oi,M5⟩:=hc;have r1:=zat hI R hx AX;have r2:=zat hI R hy DT;obtain⟨ad1,cap1,cs1,e1,l1,rr1,f1⟩:=ze8 (P:=P) R r1 Dt M5;obtain⟨ad2,cap2,cs2,e2,l2,rr2,f2⟩:=ze8 (P:=P) R r2 Ay Oi;have t1: ∀{cs:List Value} {rs:List (List V)},cs.length=rs.length*n->cs.take (rs.length*n)=cs:=fun h=>by rw[<- h,List.take_length]
  rw[e1,e2]at AP;have F2:=f2 w (fun _=>rfl) bs.length (Nat.le_refl _);rw[t1 rr2.1,e2]at F2;have F1':=f1 w.drew (znc w) as.length (Nat.le_refl _);rw[t1 rr1.1,e1]at F1';have F2':=f2 w.drew (znc w) bs.length (Nat.le_refl _);rw[t1 rr2.1,e2]at F2';split at he
  ·rename_i GV;simp only[zA]at he;subst he;have Fv:bs=[]:=by simpa using GV
   subst Fv;have FE:cs2=[]:=List.length_eq_zero_iff.1 (by simpa using rr2.1);subst FE;refine⟨a.eval x,w,A,μ,lam,.inl ?_,R.put o.dst _ _ hd hf rfl rfl rfl r1 (by simp)⟩;rw[AP,zoX (w':=w) ht hu hi g2 ⟨_,_,rfl⟩ (by simpa using l1) F2 (fun ad _=>by simp[storeCells]) (fun _=>rfl),e1];simp
  ·rename_i GV
   have D4:0<bs.length:=by
    cases bs with
    | nil=>simp at GV
    | cons b l=>simp
   -- a new block,whatever was there
   have grow: ¬(as.length+bs.length<=cap1)-> ∀(s1:St) (_:Rel N c ns A μ lam s1 a w),s1.heap (s.bas+p)=none->s.bas+p<s1.nxt->s1.free o.dst {}->
    zaJ w A N.nm μ s1.heap n (cs1++cs2) (as++bs)->
    zeB P N c ns o a w (s1.apply o.dst { val:=.ms (s.bas+p) 0 (as++bs).length,hp:=[(s.bas+p,.rows n (as++bs) false)] }):=by
    intro B5 s1 Gv AT Fj H6 AH
    have src:Src P i.size u (.slice ad2 bs.length cap2) bs.length cs2 w:=
     ⟨.inl ⟨el',hu⟩,fun _=>rfl,by rw[g2];exact F2,by rw[g2];exact F2',by rw[g2];exact rr2.1,rr2.one Cg⟩
    have GH:as.length+bs.length<=2^32:=Dr
    have AJ:Builtin.nextslicecap (as.length+bs.length) cap1*i.bytes<=281474976710656:=by
     refine growslice_fits (by omega) ?_;have:=Nat.mul_le_mul GH CG;omega
    have A3:=run_append_grow_src (P:=P) w t u o.type el i z ht hi Ip ad1 as.length cap1 cs1 (by rw[g2];exact F1') (.slice ad2 bs.length cap2) bs.length cs2 src (by omega) (by omega) AJ;have Ac:(as++bs).length=as.length+bs.length:=by simp
    have JT:(cs1++cs2).length=(as.length+bs.length)*n:=by rw[AH.1,Ac]
    have Cw:=zly w (as.length+bs.length) cap1 el;rw[A3]at AP
    have Ea:=zzK (Gv.drew) (t:=el) (cap:=grownCap w (as.length+bs.length) cap1 el) (d:=o.dst)
     (cells:=(cs1++cs2).toArray++Builtin.zeroCells z.cells (grownCap w (as.length+bs.length) cap1 el-(as.length+bs.length))) AT Fj (AH.evo (zlI w A μ s1.heap)) (fun q v hq=>by
       rw[Array.getElem?_append_left (by simpa using(zH.1 hq).1)]
       simpa using hq) (by
       rw[Array.size_append]
       have e3:(Builtin.zeroCells z.cells (grownCap w (as.length+bs.length) cap1 el-(as.length+bs.length))).size=(grownCap w (as.length+bs.length) cap1 el-(as.length+bs.length))*n:=by
        simp[Builtin.zeroCells,Io]
       rw[e3];have e4:(cs1++cs2).toArray.size=(as.length+bs.length)*n:=by simpa using JT
       rw[e4,<- Nat.add_mul]
       exact Nat.mul_le_mul_right _ (by omega)) (by rw[Ac];exact Cw) hd H6
    rw[Ac]at Ea⊢;exact⟨_,_,A,_,lam,.inl AP,Ea⟩
   split at he
   ·simp only[zA]at he;subst he;simp only[zdw,zA]at Dt;subst Dt
    have CM:cap1=0:=by
     rw[e1]at r1;obtain⟨_,h⟩:=r1.t_inv.nils_inv;cases h;rfl
    have:=grow (by simp;omega) s R hk hn hf (rr1.append rr2);simpa using this
   ·-- a clipped slice:a new block that is never written again
    rename_i es;simp only[zB,zA]at he;obtain⟨ts,FR,rfl⟩:=he
    have CM:cap1=as.length:=by
     rw[e1]at r1;simp only[zdw,zA]at Dt;have h2:=RepT.slc_inv r1.t_inv;rw[<- Dt,List.length_map];exact h2.2
    have B5: ¬(as.length+bs.length<=cap1):=by omega
    have AH:=rr1.append rr2
    have src:Src P i.size u (.slice ad2 bs.length cap2) bs.length cs2 w:=
     ⟨.inl ⟨el',hu⟩,fun _=>rfl,by rw[g2];exact F2,by rw[g2];exact F2',by rw[g2];exact rr2.1,rr2.one Cg⟩
    have GH:as.length+bs.length<=2^32:=Dr
    have AJ:Builtin.nextslicecap (as.length+bs.length) cap1*i.bytes<=281474976710656:=by
     refine growslice_fits (by omega) ?_;have:=Nat.mul_le_mul GH CG;omega
    have A3:=run_append_grow_src (P:=P) w t u o.type el i z ht hi Ip ad1 as.length cap1 cs1 (by rw[g2];exact F1') (.slice ad2 bs.length cap2) bs.length cs2 src (by omega) (by omega) AJ;rw[A3]at AP;have Cw:=zly w (as.length+bs.length) cap1 el;have E9:=AH.evo (zlI w A μ s.heap);have Rd:=R.drew
    generalize grownCap w (as.length+bs.length) cap1 el=gc at AP Cw
    generalize Builtin.zeroCells z.cells (gc-(as.length+bs.length))=zc at AP
    have AS:w.drew.heap.size=w.heap.size:=rfl
    generalize w.drew=wd at AP E9 Rd AS
    have hE:=zjq Rd (.cells ((cs1++cs2).toArray++zc) el);have B2:=zdT wd (.cells ((cs1++cs2).toArray++zc) el);have Nb:(wd.alloc (.cells ((cs1++cs2).toArray++zc) el)).heap.size=wd.heap.size+1:=by simp only[World.alloc,Array.size_push]
    have R1:=Rd.alloc (.cells ((cs1++cs2).toArray++zc) el)
    have R2:=R1.growA (fun q=>q=wd.heap.size) (fun q hq t ht=>by have:=Rd.lt_loc ht;omega)
     (fun q hq k o hk hl=>by have:=Rd.lt_live hk hl;omega)
     (fun q hq=> .inr (by have:=Rd.csize;omega)) (fun q hq=>by omega) (Rd.defers.join R1.defers (fun q hq=>by omega))
    obtain⟨m1,m2⟩:=zbb FR;have Oj:0<ts.length:=by rw[<- m1,zM];omega
    have Dd:ts.length=as.length+bs.length:=by rw[<- m1,zM]
    have Cf:zbl (wd.alloc (.cells ((cs1++cs2).toArray++zc) el)) (fun r=>A r\/r=wd.heap.size) N.nm μ s.heap (.slice (some ⟨w.heap.size,0,none⟩) (as.length+bs.length) gc) (.t (.sl ts)):=by
     have JY:=hE.blk;have Ap: ∀(i1:Nat) (tr:List T),ts[i1]? =some tr-> ∃row,(as++bs)[i1]? =some row/\trees row=some tr:=fun i1 tr h1=>m2 i1 tr h1
     have FS: ∀(row:List V) (tr:List T),trees row=some tr->tr.length=row.length/\ ∀(j:Nat) (y:T),tr[j]? =some y-> ∃y0,row[j]? =some (.t y0)/\y=y0.norm:=by
      intro row
      induction row with
      | nil=>intro tr h1;simp[trees]at h1;subst h1;exact⟨rfl,fun j y h=>by simp at h⟩
      | cons v1 row ih=>
        intro tr h1;cases v1<;>simp only[trees,reduceCtorEq]at h1
        rename_i y0;rw[zE]at h1;obtain⟨tr',h2,rfl⟩:=h1;obtain⟨h3,h4⟩:=ih tr' h2;refine⟨by simp[h3],fun j y hj=> ?_⟩
        cases j with
        | zero=>simp at hj;exact⟨y0,rfl,hj.symm⟩
        | succ j=>simpa using h4 j y (by simpa using hj)
     have Ac: ∀(i1:Nat) (tr:List T),ts[i1]? =some tr->tr.length=n:=fun i1 tr h1=>by
      obtain⟨row,h2,h3⟩:=Ap i1 tr h1;rw[(FS row tr h3).1];exact E9.2.1 i1 row h2
     have Ag: ∀(i1:Nat) (tr:List T) (j:Nat) (y:T),ts[i1]? =some tr->tr[j]? =some y-> ∃v,(cs1++cs2)[i1*n+j]? =some v/\RepT wd A N.nm v y:=fun i1 tr j y h1 h4=>by
      obtain⟨row,h2,h3⟩:=Ap i1 tr h1;obtain⟨y0,h5,rfl⟩:=(FS row tr h3).2 j y h4;obtain⟨v,h6,h7⟩:=E9.2.2 i1 row j _ h2 h5
      cases h7 with
      | t h8=>exact⟨v,h6,h8.norm⟩
     have key:=RepT.sl (w:=wd.alloc (.cells ((cs1++cs2).toArray++zc) el)) (A:=fun r=>A r\/r=wd.heap.size) (nm:=N.nm) wd.heap.size 0 gc n ts
      (fun i1 j=>((cs1++cs2)[i1*n+j]?).getD default) Oj (by rw[Dd];exact Cw) (.inr rfl) Ac ?_ ?_
     ·rw[Dd]at key;rw[<- AS];exact(RepC.t key).toV
     ·intro i1 tr j y h1 h2;obtain⟨v,h3,_⟩:=Ag i1 tr j y h1 h2;rw[h3];simp only[World.cell?,B2,Nat.zero_add,Option.getD_some];rw[Array.getElem?_append_left (by simpa using(zH.1 h3).1)];simpa using h3
     ·intro i1 tr j y h1 h2;obtain⟨v,h3,h4⟩:=Ag i1 tr j y h1 h2;rw[h3,Option.getD_some];exact h4.mono JY (fun _ h=> .inl h)
    exact⟨_,_,_,μ,lam,.inl AP,R2.put o.dst _ _ hd hf rfl rfl rfl Cf (by simp)⟩
   ·rename_i k j ll;split at he
    ·rename_i sz' rs AB;split at he
     ·rename_i Fs;obtain⟨rfl,rfl⟩:=Fs;simp only[zA]at he;subst he;have J4:s.bas+p≠k:=by intro h;rw[h]at hk;simp[AB]at hk
      have hE:Evo w A μ s.heap w A μ (upd s.heap k (some .dead)):=by
       refine⟨fun _ _=>rfl,fun _ h=>h,fun k1 o1 h=> ?_,fun _ _ h=>h⟩
       by_cases e:k1=k
       ·subst e;exact⟨.dead,by simp,by cases o1<;>trivial,fun _=>rfl⟩
       ·exact⟨o1,by rw[zad _ _ e];exact h,O.le_refl o1,fun _=>rfl⟩
      have AT:(upd s.heap k (some .dead)) (s.bas+p)=none:=by rw[zad _ _ J4];exact hk
      have UB:rs.length<=cap1:=by
       rw[e1]at r1
       cases(r1:RepC w A N.nm μ s.heap _ _)with
       | ms _ _ _ _ sz2 rs2 frz2 _ Ah AK Bz ha=>rw[AB]at Ah;cases Ah;omega
       | dms _ _ _ Ah=>rw[AB]at Ah;cases Ah
      by_cases Dy:as.length+bs.length<=cap1
      ·-- in place
       rw[e1]at r1
       have Eo:as.length=ll/\as=rs.take ll:=by
        simp only[zdw,AB,rd]at Dt;split at Dt
        ·simp only[List.drop_zero,zA]at Dt;subst Dt;exact⟨by simp;omega,rfl⟩
        ·simp at Dt
       obtain⟨cc,e0,zz,h1,h2,h3,h4,h5⟩:=R.heap k _ AB;have FM:=h2 rfl;subst FM
       obtain⟨It,GY⟩:ad1=some ⟨μ k,0,none⟩/\cap1*sz'<=cc.size:=by
        cases(r1:RepC w A N.nm μ s.heap _ _)with
        | ms _ _ _ _ sz2 rs2 frz2 _ Ah AK Bz ha=>
          rw[AB]at Ah;cases Ah;obtain⟨rfl,e3,n3,OV,Tt⟩:=ha.resolve_left (by omega);simp only[World.shape?,h1,zA,Prod.mk.injEq]at OV;obtain⟨_,rfl⟩:=OV
          exact⟨by simp,by simpa using Tt⟩
        | dms _ _ _ Ah=>rw[AB]at Ah;cases Ah
       subst It;have FE:=rr2.1
       have AJ:as.length*sz'+0+cs2.length<=cc.size:=by
        rw[FE,Nat.add_zero,<- Nat.add_mul];exact Nat.le_trans (Nat.mul_le_mul_right _ Dy) GY
       have AE:=run_storeCells_at P (μ k) (as.length*sz') e0 cs2 0 cc w h1 AJ (rr2.one Cg)
       let arr:Array Value:=(cc.toList.take (as.length*sz'+0)++cs2++cc.toList.drop (as.length*sz'+0+cs2.length)).toArray
       have Br:wr cc.toList (as.length*sz') cs2=some arr.toList:=by
        unfold wr;rw[if_pos (by simpa using AJ)];simp[arr]
       obtain⟨j1,j2,j3⟩:=zfn Br;have Dj:arr.size=cc.size:=by simpa using j2
       have R1:=R.kill AB;have orph:=R.orphan_kill AB rfl (by simp);have R2:=R1.setOrphan orph h1 Dj
       have JY:Evo w A μ (upd s.heap k (some .dead)) (w.setRow (μ k) arr) A μ (upd s.heap k (some .dead)):=
        ⟨fun r hr=>setRow_other w _ r _ (fun e=>orph.a (e▸hr)),fun _ h=>h,fun _ o h=>⟨o,h,O.le_refl o,fun _=>rfl⟩,shape?_setRow h1 Dj⟩
       have LS:as=rs.take as.length:=by rw[Eo.1];exact Eo.2
       obtain⟨al1,al2⟩:=zoy as bs rs
       have GA:zq3 (w.setRow (μ k) arr) A N μ (upd s.heap k (some .dead)) (μ k) (.rows sz' (zbU as bs rs) false):=by
        have Ix: ∀(i1:Nat) (row:List V),(zbU as bs rs)[i1]? =some row->row.length=sz':=by
         intro i1 row B8;rcases zjM LS B8 with⟨_,h⟩ | ⟨_,_,h⟩ | ⟨_,h⟩
         ·exact h4 _ row h
         ·exact rr2.2.1 _ row h
         ·exact h4 _ row h
        refine⟨arr,e0,(0,0),setRow_heap w _ cc arr e0 _ h1,fun _=>rfl,?_,Ix,?_⟩
        ·rw[Dj];rcases al2 with al2 | al2
         ·rw[al2];exact Nat.le_trans (Nat.mul_le_mul_right _ Dy) GY
         ·rw[al2];exact h3
        ·intro i1 row j x B8 hj;have Bb:=Ix i1 row B8;have AN:j<sz':=by rw[<- Bb];exact(zH.1 hj).1
         have Ag:arr[i1*sz'+j]? =arr.toList[i1*sz'+j]? :=by rw[Array.getElem?_toList]
         rw[Ag,j3];rcases zjM LS B8 with⟨Ad,Cq⟩ | ⟨Bv,Ad,Cq⟩ | ⟨Bv,Cq⟩
         ·have:=zgg Ad AN;rw[if_neg (by omega)];obtain⟨v,hv,hr⟩:=h5 i1 row j x Cq hj;exact⟨v,by simpa using hv,(hr.evo hE).evo JY⟩
         ·have AV:i1-as.length<bs.length:=(zH.1 Cq).1;have e5:i1*sz'=as.length*sz'+(i1-as.length)*sz':=by rw[<- Nat.add_mul];congr 1;omega
          have:=zgg AV AN;rw[if_pos (by rw[FE];omega)];obtain⟨v,hv,hr⟩:=rr2.2.2 _ row j x Cq hj;refine⟨v,?_,(hr.evo hE).evo JY⟩;have e6:i1*sz'+j-as.length*sz'=(i1-as.length)*sz'+j:=by omega
          rw[e6];exact hv
         ·have:=Nat.mul_le_mul_right sz' Bv;rw[Nat.add_mul]at this;rw[if_neg (by rw[FE];omega)];obtain⟨v,hv,hr⟩:=h5 i1 row j x Cq hj;exact⟨v,by simpa using hv,(hr.evo hE).evo JY⟩
       have R3:=R2.adoptH (k:=s.bas+p) AT hn orph GA (by simp)
       have A3:=zoX (P:=P) (ty:=o.type) (w':=w.setRow (μ k) arr) ht hu hi g2 ⟨ad2,cap2,rfl⟩ Dy F2 (base:=some ⟨μ k,0,none⟩) (fun ad h=>by
        cases h;rw[zcL,Nat.zero_add]
        exact AE) (fun h=>by simp at h)
       rw[A3]at AP;refine⟨_,_,A,_,lam,.inl AP,R3.put o.dst { val:=.ms (s.bas+p) 0 (as.length+bs.length) } _ hd hf rfl rfl rfl ?_ (by simp)⟩
       have E7:(w.setRow (μ k) arr).shape? (μ k)=some (e0,cc.size):=by
        unfold World.shape?;rw[setRow_heap w _ cc arr e0 _ h1];simp[Dj]
       have:=RepC.ms (w:=w.setRow (μ k) arr) (A:=A) (nm:=N.nm) (μ:=upd μ (s.bas+p) (μ k)) (H:=upd (upd s.heap k (some .dead)) (s.bas+p) (some (.rows sz' (zbU as bs rs) false))) (s.bas+p) 0 (as.length+bs.length) cap1 sz' (zbU as bs rs) false
        (some ⟨μ k,0,none⟩) (by simp) (by omega) (by rcases al2 with al2 | al2<;>omega) (.inr ⟨by simp,e0,cc.size,by simpa using E7,by simpa using GY⟩)
       exact this.toV
      ·have:=grow Dy { s with heap:=upd s.heap k (some .dead) } (R.kill AB) AT hn hf ((rr1.append rr2).evo hE);rw[zM]at this;rw[show zbU as bs rs=as++bs from if_pos (by omega)];exact this
     ·simp at he
    ·simp at he
   ·simp at he
 ·simp at he
theorem zif (w:World) (t tx ty e:TypeId) (i:TypeInfo) (z:Value) (k k':IntKind) (ht:P.underlying t=some (.slice e)) (hi:P.info? e=some i) (hz:i.zero=some z) (hk:P.underlying tx=some (.int k)) (base:Option Addr) (m:Nat) (hm:1<=m) (hs:0<i.size)
 (hw:IntKind.i64.wrap (m:Int)=m) (MF:(m:Int)<=9223372036854775807) (hb: ¬((m:Int)*i.bytes>2^48)) (AJ:Builtin.nextslicecap m 0*i.bytes<=281474976710656):
 (Builtin.append_ #[t,tx] ty #[.slice base 0 0,.int k' m]).run P w=
   .ok (.slice (some ⟨w.heap.size,0,none⟩) m (grownCap w m 0 e)) (w.drew.alloc (.cells (Builtin.zeroCells z.cells m++Builtin.zeroCells z.cells (grownCap w m 0 e-m)) e)):=by
 have h1: ¬((m:Int)<0):=by omega
 have h3: ¬(9223372036854775807<(m:Int)):=by omega
 have h4: ¬(281474976710656<Builtin.nextslicecap m 0*i.bytes):=by omega
 have h5: ¬(m=0):=by omega
 have h7: ¬(m*i.size=0):=by
  intro h;rcases Nat.mul_eq_zero.1 h with h | h<;>omega
 have h6: ¬(281474976710656<(m:Int)*i.bytes):=by simpa using hb
 have h0:(Builtin.firstCells i.size 0 (.slice base 0 0)).run P w.drew= .ok #[] w.drew:=by
  cases base with
  | none=>exact run_firstCells_none w.drew i.size 0 0 0
  | some ad=>exact run_firstCells_some w.drew i.size 0 ad 0 0 [] (by simp) (by simp)
 simp[Builtin.append_,run_underlying ht,run_underlying hk,Go.sizeOf,typeInfo,zeroValue,hi,hz,asInt,asIntOf,hw,h1,h3,h4,h5,h6,h7,h0,Question.forced,newRow,grownCap]
theorem zya (hI:I.Ok N) (R:Rel N c ns A μ lam s a w) {cl:Call} {t u el:TypeId} {k:IntKind} {n:Nat} {ag:Bool} {i:TypeInfo} {x y:Operand} {x' y':Opd} {zl:List V}
 (hx:opd I x=some x') (hy:opd I y=some y') (ht:P.underlying t=some (.slice el)) (hu:P.underlying u=some (.int k)) (A4:typ P el=some (ag,n)) (hi:P.info? el=some i) (hz:zdc P el=some zl) (Cg:0<n)
 (ho:o.op= .call cl) (hb:cl.callee= .builtin .append) (Bj:cl.argTypes= #[t,u]) (Dh:cl.args= #[x,y])
 (hd: ∀x,o.dst=some x->x<ns) (hf:s.free o.dst e) (hk:s.heap (s.bas+p)=none) (hn:s.bas+p<s.nxt) (he:zaj N.G p s (.appz n i.bytes zl x' y')=some e):zeB P N c ns o a w (s.apply o.dst e):=by
 have AP:=zjp (P:=P) (w:=w) (a:=a) ho hb;rw[Bj,Dh]at AP;simp only[List.map_toArray,List.map_cons,List.map_nil]at AP;obtain⟨inf,g1,g2,g3,g4⟩:=zbr A4;rw[hi]at g1;cases g1;obtain⟨i',z,AK,Ip,IO,Gi⟩:=zb4 hz;rw[hi]at AK;cases AK;simp only[zaj,zC,zB]at he;obtain⟨m,hm,v,hv,he⟩:=he;split at he
 ·split at he
  ·rename_i hc;obtain⟨c1,c2,c3,c4⟩:=hc;simp only[zA]at he;subst he;obtain⟨km,K0⟩:=zc4 hI R hy hm
   obtain⟨ad,D7⟩: ∃ad,a.eval x= .slice ad 0 0:=by
    have h:=(zat hI R hx hv).t_inv
    generalize a.eval x=q at h
    cases h;exact⟨_,rfl⟩
   obtain⟨q,rfl⟩: ∃q:Nat,m=q:=⟨m.toNat,by omega⟩
   rw[D7,K0]at AP
   have CH: ¬((q:Int)*i.bytes>2^48):=by
    have h1:(q:Int)*i.bytes<=2^32*2^12:=Int.mul_le_mul c2 (by omega) (by omega) (by omega);omega
   have AJ:Builtin.nextslicecap q 0*i.bytes<=281474976710656:=by
    refine growslice_fits (by omega) ?_;have:=Nat.mul_le_mul (show q<=2^32 by omega) c3;omega
   have A3:=zif (P:=P) w t u o.type el i z k km ht hi Ip hu ad q (by omega) (by omega) (zhj (by omega) c2) (by omega) CH AJ;rw[A3]at AP;have Io:z.cells.size=n:=by have:=(zbT (w:=w) (A:=A) (nm:=N.nm) (μ:=μ) (H:=s.heap) IO).1;simp at this;omega
   have AH:zaJ w A N.nm μ s.heap n (Builtin.zeroCells z.cells q).toList (List.replicate q zl):=zaJ.replicate (zbT IO) c4 q _ (by simp[Io]);have Cw:=zly w q 0 el
   have Ea:=zzK R.drew (t:=el) (cap:=grownCap w q 0 el) (d:=o.dst) (cells:=Builtin.zeroCells z.cells q++Builtin.zeroCells z.cells (grownCap w q 0 el-q)) hk hn (AH.evo (zlI w A μ s.heap)) (fun j v hj=>by
    rw[Array.getElem?_toList]at hj;rw[Array.getElem?_append_left (Array.getElem?_eq_some_iff.1 hj).1]
    exact hj) (by
    rw[Array.size_append];simp only[Builtin.zeroCells,Io,Array.size_map,Array.size_range];rw[<- Nat.add_mul]
    exact Nat.mul_le_mul_right _ (by omega)) (by simp;exact Cw) hd hf
   simp only[List.length_replicate,Int.toNat_natCast]at Ea⊢;exact⟨_,_,A,_,lam,.inl AP,Ea⟩
  ·simp at he
 ·simp at he
theorem zx3 (hI:I.Ok N) (R:Rel N c ns A μ lam s a w) {cl:Call} {t u el:TypeId} {n:Nat} {ag:Bool} {x y:Operand} {x' y':Opd}
 (hx:opd I x=some x') (hy:opd I y=some y') (ht:P.underlying t=some (.slice el)) (A4:typ P el=some (ag,n)) (Cg:0<n)
 (ho:o.op= .call cl) (hb:cl.callee= .builtin .copy) (Bj:cl.argTypes= #[t,u]) (Dh:cl.args= #[x,y])
 (hd: ∀x,o.dst=some x->x<ns) (hf:s.free o.dst e) (he:zaj N.G p s (.copy n x' y')=some e):zeB P N c ns o a w (s.apply o.dst e):=by
 have AP:=zsP (P:=P) (w:=w) (a:=a) ho hb;rw[Bj,Dh]at AP;simp only[List.map_toArray,List.map_cons,List.map_nil]at AP;obtain⟨inf,g1,g2,g3,g4⟩:=zbr A4;simp only[zaj,zC,zB]at he;obtain⟨v1,AX,v2,DT,bs,Ay,he⟩:=he;have r1:=zat hI R hx AX;have r2:=zat hI R hy DT
 obtain⟨ad2,cap2,e2⟩: ∃ad cap,a.eval y= .slice ad bs.length cap:=by
  refine r2.len_inv ?_;unfold zdw at Ay;unfold lenOf;split at Ay
  ·simp only[zA]at Ay;subst Ay;rfl
  ·simp only[zA]at Ay;subst Ay;simp
  ·simp only[zA]at Ay;subst Ay;simp
  ·split at Ay
   ·unfold rd at Ay;split at Ay
    ·simp only[zA]at Ay;subst Ay;simp;omega
    ·simp at Ay
   ·simp at Ay
  ·simp at Ay
 have BN: ∀w:World,(Builtin.firstCells n 0 (a.eval y)).run P w= .ok #[] w:=by
  intro w;rw[e2]
  cases ad2 with
  | none=>simp[Builtin.firstCells]
  | some ad=>simp[Builtin.firstCells,loadCells,loadCellsFrom]
 split at he
 ·simp only[zA]at he;subst he;obtain⟨ad1,e1⟩:=r1.t_inv.nils_inv;refine⟨goInt 0,w,A,μ,lam,.inl ?_,R.put o.dst _ _ hd hf rfl rfl rfl (RepC.t (.int _ _)).toV (by simp)⟩;rw[AP];have Mk:=BN w;rw[e2]at Mk;rw[e1,e2]
  cases ad1 with
  | none=>simp[Builtin.copy_,zau ht,Builtin.lenOf,zaO g1,g2,Mk]
  | some ad=>simp[Builtin.copy_,zau ht,Builtin.lenOf,zaO g1,g2,Mk,storeCells]
 ·rename_i k i len;split at he
  ·rename_i sz' rs AB;split at he
   ·rename_i Fs;obtain⟨rfl,Aa⟩:=Fs;simp only[zB,zA]at he;obtain⟨rs',hw,rfl⟩:=he;obtain⟨ad2',cap2',cs2,e2',l2,rr2,f2⟩:=ze8 (P:=P) R r2 Ay Aa;obtain⟨cc,e0,zz,h1,h2,h3,h4,h5⟩:=R.heap k _ AB;have FM:=h2 rfl;subst FM;obtain⟨q1,q2,q3⟩:=zfn hw
    obtain⟨base,cap,e1,Db⟩: ∃base cap,a.eval x= .slice base len cap/\(0<len->base=some ⟨μ k,i*sz',none⟩):=by
     generalize a.eval x=v at r1
     cases(r1:RepC w A N.nm μ s.heap v _)with
     | ms _ _ _ cap sz2 rs2 frz2 ad Ah AK Bz ha=>
       rw[AB]at Ah;cases Ah;refine⟨ad,cap,rfl,fun hl=> ?_⟩
       exact(ha.resolve_left (by omega)).1
     | dms _ _ _ Ah=>rw[AB]at Ah;cases Ah
    have T4:min bs.length len<=bs.length:=Nat.min_le_left _ _;have F2:=f2 w (fun _=>rfl) (min bs.length len) T4;have Dd:(bs.take len).length=min bs.length len:=by simp[Nat.min_comm]
    have CA:(cs2.take (min bs.length len*sz')).length=min bs.length len*sz':=by
     rw[List.length_take,rr2.1];exact Nat.min_eq_left (Nat.mul_le_mul_right _ T4)
    have AJ:i*sz'+0+(cs2.take (min bs.length len*sz')).length<=cc.size:=by
     rw[CA,Nat.add_zero,<- Nat.add_mul];refine Nat.le_trans (Nat.mul_le_mul_right _ ?_) h3;rw[<- Dd];exact q1
    have AE:=run_storeCells_at P (μ k) (i*sz') e0 (cs2.take (min bs.length len*sz')) 0 cc w h1 AJ (fun v hv=>rr2.one Cg v (List.mem_of_mem_take hv))
    let arr:Array Value:=(cc.toList.take (i*sz'+0)++cs2.take (min bs.length len*sz')++cc.toList.drop (i*sz'+0+(cs2.take (min bs.length len*sz')).length)).toArray
    have Br:wr cc.toList (i*sz') (cs2.take (min bs.length len*sz'))=some arr.toList:=by
     unfold wr;rw[if_pos (by simpa using AJ)];simp[arr]
    obtain⟨j1,j2,j3⟩:=zfn Br;have Dj:arr.size=cc.size:=by simpa using j2
    have R1:=R.changeH (o':= .rows sz' rs' false) (w':=w.setRow (μ k) arr) AB ⟨rfl,q2⟩ rfl (by simp) (by simp) rfl (by simp) (fun r hr=>setRow_other w _ r _ hr)
     (shape?_setRow h1 Dj) (fun E=>by
       refine⟨arr,e0,(0,0),setRow_heap w _ cc arr e0 _ h1,fun _=>rfl,by rw[Dj,q2];exact h3,?_,?_⟩
       ·intro i1 row B3;rw[q3 i1]at B3;split at B3
        ·rw[zO]at B3;split at B3
         ·exact rr2.2.1 _ row B3
         ·simp at B3
        ·exact h4 i1 row B3
       ·intro i1 row j x B3 hj;have Ag:arr[i1*sz'+j]? =arr.toList[i1*sz'+j]? :=by rw[Array.getElem?_toList]
        rw[Ag,j3];rw[q3 i1]at B3;split at B3
        ·rename_i Aj;rw[zO]at B3;split at B3
         ·rename_i Ad;have AN:j<sz':=by rw[<- rr2.2.1 _ row B3];exact(zH.1 hj).1
          have Cx:i1-i<min bs.length len:=by rw[Dd]at Aj;omega
          have:=zgg Cx AN;have e5:i1*sz'=i*sz'+(i1-i)*sz':=by rw[<- Nat.add_mul];congr 1;omega
          rw[if_pos (by rw[CA];omega)];obtain⟨v,hv,hr⟩:=rr2.2.2 _ row j x B3 hj;refine⟨v,?_,hr.evo E⟩;have e6:i1*sz'+j-i*sz'=(i1-i)*sz'+j:=by omega
          rw[e6,zO,if_pos this];exact hv
         ·simp at B3
        ·rename_i Aj;have AN:j<sz':=by rw[<- h4 _ row B3];exact(zH.1 hj).1
         obtain⟨v,hv,hr⟩:=h5 i1 row j x B3 hj;rw[if_neg]
         ·exact⟨v,by simpa using hv,hr.evo E⟩
         ·rw[CA];intro hh;rw[Dd]at Aj;rcases Nat.lt_or_ge i1 i with Ad | Bv
          ·have:=Nat.mul_le_mul_right sz' (Nat.succ_le_of_lt Ad);rw[Nat.succ_mul]at this;omega
          ·have JJ:i+min bs.length len<=i1:=by omega
           have:=Nat.mul_le_mul_right sz' JJ
           rw[Nat.add_mul]at this;omega)
    have Ld:base=none->w.setRow (μ k) arr=w:=by
     intro Co
     have SK:len=0:=by
      rcases Nat.eq_zero_or_pos len with h | h
      ·exact h
      ·rw[Db h]at Co;simp at Co
     subst SK
     have:arr=cc:=by
      apply Array.ext';simp[arr]
     rw[this];exact setRow_self w _ cc e0 _ h1
    refine⟨goInt (min bs.length len:Nat),w.setRow (μ k) arr,A,μ,lam,.inl ?_,R1.put o.dst { val:=.t (.int .i64 (min bs.length len:Nat)) } _ hd hf rfl rfl rfl (RepC.t (.int _ _)).toV (by simp)⟩;rw[AP,e1];rw[e2]at F2⊢
    cases base with
    | none=>
      rw[Ld rfl];simp only[Builtin.copy_,List.getElem?_toArray,List.getElem?_cons_zero,List.getElem?_cons_succ,Sem.run_bind,zau ht,Result.andThen_ok,Builtin.lenOf,Sem.run_pure,zaO g1,g2];rw[show Nat.min bs.length len=min bs.length len from rfl,F2]
      rfl
    | some ad=>
      rcases Nat.eq_zero_or_pos len with hl | hl
      ·subst hl
       have Hg:w.setRow (μ k) arr=w:=by
        have:arr=cc:=by
         apply Array.ext';simp[arr]
        rw[this];exact setRow_self w _ cc e0 _ h1
       rw[Hg];simp only[Builtin.copy_,List.getElem?_toArray,List.getElem?_cons_zero,List.getElem?_cons_succ,Sem.run_bind,zau ht,Result.andThen_ok,Builtin.lenOf,Sem.run_pure,zaO g1,g2];rw[show Nat.min bs.length 0=min bs.length 0 from rfl,F2];simp[storeCells]
      ·have:=Db hl;cases this;simp only[Builtin.copy_,List.getElem?_toArray,List.getElem?_cons_zero,List.getElem?_cons_succ,Sem.run_bind,zau ht,Result.andThen_ok,Builtin.lenOf,Sem.run_pure,zaO g1,g2];rw[show Nat.min bs.length len=min bs.length len from rfl,F2];simp only[Result.andThen_ok];rw[AE];rfl
   ·simp at he
  ·simp at he
 ·simp at he
theorem zqI {cl:Call} (ho:o.op= .call cl) (hb:cl.callee= .builtin .clear):
 (execOp a.eval o).run P w=((Builtin.clear_ cl.argTypes o.type (cl.args.map a.eval)).run P w).andThen fun v w'=> .ok (.value v) w':=by
 simp[execOp,ho,resolve,hb,invoke,builtin]
theorem zwm (hI:I.Ok N) (R:Rel N c ns A μ lam s a w) {cl:Call} {t el:TypeId} {n:Nat} {ag:Bool} {x:Operand} {x':Opd} {z:List V}
 (hx:opd I x=some x') (ht:P.underlying t=some (.slice el)) (A4:typ P el=some (ag,n)) (Cg:0<n) (hz:zdc P el=some z) (Hr:z.length=n)
 (ho:o.op= .call cl) (hb:cl.callee= .builtin .clear) (Bj:cl.argTypes= #[t]) (Dh:cl.args= #[x])
 (hd: ∀x,o.dst=some x->x<ns) (hf:s.free o.dst e) (he:zaj N.G p s (.clear n z x')=some e):zeB P N c ns o a w (s.apply o.dst e):=by
 have AP:=zqI (P:=P) (w:=w) (a:=a) ho hb;rw[Bj,Dh]at AP;simp only[List.map_toArray,List.map_cons,List.map_nil]at AP;obtain⟨i',zv,AK,Ip,IO,Gi⟩:=zb4 hz;have Io:zv.cells.size=n:=by have:=(zbT (w:=w) (A:=A) (nm:=N.nm) (μ:=μ) (H:=s.heap) IO).1;simp at this;omega
 simp only[zaj,zC,zB]at he;obtain⟨v1,AX,he⟩:=he;have r1:=zat hI R hx AX;split at he
 ·simp only[zA]at he;subst he;obtain⟨ad1,e1⟩:=r1.t_inv.nils_inv;refine⟨.tuple #[],w,A,μ,lam,.inl ?_,R.put o.dst _ _ hd hf rfl rfl rfl ⟨#[],rfl,rfl,by simp⟩ (by simp)⟩;rw[AP,e1];cases ad1<;>simp[Builtin.clear_,zau ht]
 ·rename_i k i len;split at he
  ·rename_i sz' rs AB;split at he
   ·rename_i Fs;obtain⟨IX,_⟩:=Fs;subst IX;simp only[zB,zA]at he;obtain⟨rs',hw,rfl⟩:=he;obtain⟨cc,e0,zz,h1,h2,h3,h4,h5⟩:=R.heap k _ AB;have FM:=h2 rfl;subst FM;obtain⟨q1,q2,q3⟩:=zfn hw
    obtain⟨base,cap,e1,Db⟩: ∃base cap,a.eval x= .slice base len cap/\(0<len->base=some ⟨μ k,i*sz',none⟩):=by
     generalize a.eval x=v at r1
     cases(r1:RepC w A N.nm μ s.heap v _)with
     | ms _ _ _ cap sz2 rs2 frz2 ad Ah AK Bz ha=>
       rw[AB]at Ah;cases Ah;refine⟨ad,cap,rfl,fun hl=> ?_⟩
       exact(ha.resolve_left (by omega)).1
     | dms _ _ _ Ah=>rw[AB]at Ah;cases Ah
    have rr2:zaJ w A N.nm μ s.heap sz' (Builtin.zeroCells zv.cells len).toList (List.replicate len z):=zaJ.replicate (zbT IO) Hr len _ (by rw[Io])
    generalize AL:(Builtin.zeroCells zv.cells len).toList=cs2 at rr2
    have By:cs2.length=len*sz':=by rw[rr2.1];simp
    simp only[List.length_replicate]at q1 q3
    have AJ:i*sz'+0+cs2.length<=cc.size:=by
     rw[By,Nat.add_zero,<- Nat.add_mul];exact Nat.le_trans (Nat.mul_le_mul_right _ q1) h3
    have AE:=run_storeCells_at P (μ k) (i*sz') e0 cs2 0 cc w h1 AJ (rr2.one Cg)
    let arr:Array Value:=(cc.toList.take (i*sz'+0)++cs2++cc.toList.drop (i*sz'+0+cs2.length)).toArray
    have Br:wr cc.toList (i*sz') cs2=some arr.toList:=by
     unfold wr;rw[if_pos (by simpa using AJ)];simp[arr]
    obtain⟨j1,j2,j3⟩:=zfn Br;have Dj:arr.size=cc.size:=by simpa using j2
    have R1:=R.changeH (o':= .rows sz' rs' false) (w':=w.setRow (μ k) arr) AB ⟨rfl,q2⟩ rfl (by simp) (by simp) rfl (by simp) (fun r hr=>setRow_other w _ r _ hr)
     (shape?_setRow h1 Dj) (fun E=>by
       refine⟨arr,e0,(0,0),setRow_heap w _ cc arr e0 _ h1,fun _=>rfl,by rw[Dj,q2];exact h3,?_,?_⟩
       ·intro i1 row B3;rw[q3 i1]at B3;split at B3
        ·exact rr2.2.1 _ row B3
        ·exact h4 i1 row B3
       ·intro i1 row j x B3 hj;have Ag:arr[i1*sz'+j]? =arr.toList[i1*sz'+j]? :=by rw[Array.getElem?_toList]
        rw[Ag,j3];rw[q3 i1]at B3;split at B3
        ·rename_i Aj;have AN:j<sz':=by rw[<- rr2.2.1 _ row B3];exact(zH.1 hj).1
         have Cx:i1-i<len:=by omega
         have:=zgg Cx AN;have e5:i1*sz'=i*sz'+(i1-i)*sz':=by rw[<- Nat.add_mul];congr 1;omega
         rw[if_pos (by rw[By];omega)];obtain⟨v,hv,hr⟩:=rr2.2.2 _ row j x B3 hj;refine⟨v,?_,hr.evo E⟩;have e6:i1*sz'+j-i*sz'=(i1-i)*sz'+j:=by omega
         rw[e6];exact hv
        ·rename_i Aj;have AN:j<sz':=by rw[<- h4 _ row B3];exact(zH.1 hj).1
         obtain⟨v,hv,hr⟩:=h5 i1 row j x B3 hj;rw[if_neg]
         ·exact⟨v,by simpa using hv,hr.evo E⟩
         ·rw[By];intro hh;rcases Nat.lt_or_ge i1 i with Ad | Bv
          ·have:=Nat.mul_le_mul_right sz' (Nat.succ_le_of_lt Ad);rw[Nat.succ_mul]at this;omega
          ·have JJ:i+len<=i1:=by omega
           have:=Nat.mul_le_mul_right sz' JJ
           rw[Nat.add_mul]at this;omega)
    refine⟨.tuple #[],w.setRow (μ k) arr,A,μ,lam,.inl ?_,R1.put o.dst { val:=.tup [] } _ hd hf rfl rfl rfl ⟨#[],rfl,rfl,by simp⟩ (by simp)⟩;rw[AP,e1];rcases Nat.eq_zero_or_pos len with hl | hl
    ·subst hl;have CM:cs2=[]:=List.length_eq_zero_iff.1 (by simpa using By)
     have Hg:w.setRow (μ k) arr=w:=by
      have:arr=cc:=by
       apply Array.ext';simp[arr,CM]
      rw[this];exact setRow_self w _ cc e0 _ h1
     rw[Hg];cases base<;>simp[Builtin.clear_,zau ht]
    ·have:=Db hl;subst this;obtain⟨m,rfl⟩:=Nat.exists_eq_succ_of_ne_zero (Nat.ne_of_gt hl);simp only[Builtin.clear_,List.getElem?_toArray,List.getElem?_cons_zero,Sem.run_bind,zau ht,Result.andThen_ok,Gi,Sem.run_pure,Nat.succ_eq_add_one];rw[show(Builtin.zeroCells zv.cells (m+1)).toList=cs2 from AL];rw[AE];rfl
   ·simp at he
  ·simp at he
 ·simp at he
end
end Rg
end
section
namespace Rg
open Go
def World.setMap (w:World) (r:Nat) (ob:Go.Obj):World:={ w with heap:=w.heap.setIfInBounds r ob }
theorem zy3 {x y:ByteArray} (h:(x==y)=true):x=y:=by
 cases x;cases y;exact congrArg ByteArray.mk (eq_of_beq h)
section
variable {P:Program} {w:World}
theorem zfX {r n:Nat} {ms:Array MapEntry} (h:w.heap[r]? =some (.map ms n)):(getObj r).run P w= .ok (.map ms n) w:=by
 simp only[getObj,Sem.run,h]
theorem zkn {r n:Nat} {ms:Array MapEntry} (ob:Go.Obj) (h:w.heap[r]? =some (.map ms n)):(setObj r ob).run P w= .ok () (World.setMap w r ob):=by
 simp only[setObj,Sem.run,h];rfl
def zfv:TypeDesc->Option Nat
 | .int _=>some 0
 | .bool=>some 1
 | .string=>some 2
 | _=>none
def T.kind:T->Option Nat
 | .int _ _=>some 0
 | .bool _=>some 1
 | .str _=>some 2
 | _=>none
theorem zgQ {t:TypeId} {k:Nat} {b:Bool} {n:Nat} {v:Value} (hk:zdA P t=some k):(Instr.checkKey b (n+1) t v).run P w= .ok () w:=by
 unfold zdA at hk;split at hk<;>(try simp at hk)
 all_goals(rename_i hu;simp[Instr.checkKey,zau hu])
end
def ztx (P:Program) (t:TypeId) (kd:Nat):Prop:=(∃d,P.underlying t=some d/\zfv d=some kd/\zdA P t=some kd)\/ ∃ks,zdB P t=some ks/\kd=3+zjh ks
def zvy (k:T) (kd:Nat):Prop:=k.kind=some kd\/ ∃ts,k= .sl [ts]/\kd=3+zjh (ts.map T.kindN)
theorem zmX: ∀{a b:List Nat},(∀x∈a,x<=2)->(∀x∈b,x<=2)->zjh a=zjh b->a=b
 | [],[],_,_,_=>rfl
 | [],_::_,_,_,h=>by simp only[zjh]at h;omega
 | _::_,[],_,_,h=>by simp only[zjh]at h;omega
 | x::a,y::b,ha,hb,h=>by
   have h1:=ha x (by simp);have h2:=hb y (by simp);simp only[zjh]at h;have h3:x=y:=by omega
   rw[h3,zmX (a:=a) (b:=b) (fun z hz=>ha z (by simp[hz])) (fun z hz=>hb z (by simp[hz])) (by omega)]
theorem zsm {P:Program} {t:TypeId} {k:Nat} (h:zdA P t=some k):k<=2:=by
 unfold zdA at h;split at h<;>simp at h<;>omega
theorem zpe {P:Program}: ∀{fs:List Field} {i:Nat} {ks:List Nat},zbu P i fs=some ks-> ∀k∈ks,k<=2
 | [],i,ks,h=>by simp only[zbu,zA]at h;subst h;simp
 | f::fs,i,ks,h=>by
   simp only[zbu,zC,zB]at h;obtain⟨k,hk,ks',Dn,h⟩:=h;split at h
   ·simp only[zA]at h;subst h;intro x hx;rcases List.mem_cons.1 hx with rfl | hx
    ·exact zsm hk
    ·exact zpe Dn x hx
   ·cases h
theorem zqk {P:Program} {t:TypeId} {ks:List Nat} (h:zdB P t=some ks): ∀k∈ks,k<=2:=by
 unfold zdB at h;split at h
 ·split at h
  ·exact zpe h
  ·cases h
 ·cases h
theorem zuC (ts:List T): ∀k∈ts.map T.kindN,k<=2:=by
 intro k hk;obtain⟨t,_,rfl⟩:=List.mem_map.1 hk;cases t<;>simp[T.kindN]
theorem zmU: ∀{ts us:List T} {b:Bool},zfw ts us=some b->zbh (ts.map T.kindN) (ts.map V.t) (us.map V.t)=some b
 | [],[],b,h=>h
 | [],_::_,b,h=>by simp[zfw]at h
 | _::_,[],b,h=>by simp[zfw]at h
 | t::ts,u::us,b,h=>by
   simp only[zfw,zC,zB,zA]at h;obtain⟨c,hc,r,hr,rfl⟩:=h;have ih:=zmU hr;simp only[List.map_cons,zbh,ih,zC]
   have h1:zg6 t.kindN (.t t) (.t u)=some c:=by
    unfold zsp at hc;split at hc
    ·split at hc
     ·rename_i hk;subst hk;simpa[zg6,T.kindN]using hc
     ·cases hc
    ·rename_i a b;simp only[zA]at hc;subst hc;simp only[zg6,T.kindN,if_true];rw[ByteArray.toList_eq,ByteArray.toList_eq];show some (a.data.toList==b.data.toList)=some (a.data==b.data);rw[Array.beq_toList]
    ·simp only[zA]at hc;subst hc;simp[zg6,T.kindN]
    ·cases hc
   rw[h1];rfl
theorem zjg: ∀{ts us:List T} {vs ws:List Value},zcB ts=some vs->zcB us=some ws->zfw ts us=some true->vs=ws
 | [],[],vs,ws,hv,hw,_=>by simp only[zcB,zA]at hv hw;rw[<- hv,<- hw]
 | [],_::_,_,_,_,_,h=>by simp[zfw]at h
 | _::_,[],_,_,_,_,h=>by simp[zfw]at h
 | t::ts,u::us,vs,ws,hv,hw,h=>by
   simp only[zfw,zC,zB,zA,zF]at h;obtain⟨c,hc,r,hr,Gc,Iw⟩:=h;subst Gc Iw;simp only[zcB,zB,zE]at hv hw;obtain⟨v,AX,vs',DT,rfl⟩:=hv;obtain⟨z,Cj,ws',BO,rfl⟩:=hw;have ih:=zjg DT BO hr
   have h1:v=z:=by
    unfold zsp at hc;split at hc
    ·split at hc
     ·rename_i hk;simp only[zA,beq_iff_eq]at hc;simp only[zgA,zA]at AX Cj;rw[<- AX,<- Cj,hk,hc]
     ·cases hc
    ·simp only[zA]at hc;have:=zy3 hc;simp only[zgA,zA]at AX Cj;rw[<- AX,<- Cj,this]
    ·simp only[zA,beq_iff_eq]at hc;simp only[zgA,zA]at AX Cj;rw[<- AX,<- Cj,hc]
    ·cases hc
   rw[h1,ih]
theorem ze7 {w:World} {A:Nat->Prop} {nm μ:Nat->Nat} {H:Nat->Option O}: ∀{ts:List T} {vs:List Value},zcB ts=some vs->zfk w A nm μ H vs (ts.map V.t)
 | [],vs,h=>by simp only[zcB,zA]at h;subst h;exact⟨rfl,fun i c h=>by simp at h⟩
 | t::ts,vs,h=>by
   simp only[zcB,zB,zE]at h;obtain⟨v,hv,vs',Au,rfl⟩:=h;obtain⟨i1,i2⟩:=ze7 (w:=w) (A:=A) (nm:=nm) (μ:=μ) (H:=H) Au;refine⟨by simpa using i1,fun i c hc=> ?_⟩
   cases i with
   | zero=>
     simp only[List.map_cons,List.getElem?_cons_zero,zA]at hc;subst hc;refine⟨v,rfl,?_⟩;cases t<;>simp[zgA]at hv<;>subst hv
     ·exact .t (.int _ _)
     ·exact .t (.bool _)
     ·exact .t (.str _)
   | succ i=>exact i2 i c (by simpa using hc)
theorem zg9 {w:World} {A:Nat->Prop} {nm μ:Nat->Nat} {H:Nat->Option O}: ∀{cs:List V} {vs:List Value} {ts:List T},zfk w A nm μ H vs cs->zg2 cs=some ts->zcB ts=some vs
 | [],vs,ts,hr,h=>by
   simp only[zg2,zA]at h;subst h;have:vs=[]:=by simpa using hr.1
   subst this;rfl
 | c::cs,vs,ts,hr,h=>by
   simp only[zg2,zC,zB,zA]at h;obtain⟨t,ht,ts',FR,rfl⟩:=h
   cases vs with
   | nil=>have:=hr.1;simp at this
   | cons v vs=>
     have ih:=zg9 (cs:=cs) (vs:=vs) ⟨by simpa using hr.1,fun i x hx=>by simpa using hr.2 (i+1) x (by simpa using hx)⟩ FR;obtain⟨v',BQ,E5⟩:=hr.2 0 c rfl;simp only[List.getElem?_cons_zero,zA]at BQ;subst BQ
     have h1:zgA t=some v:=by
      unfold zsq at ht;split at ht
      ·simp only[zA]at ht;subst ht;cases E5 with | t h=>cases h;rfl
      ·simp only[zA]at ht;subst ht;cases E5 with | t h=>cases h;rfl
      ·simp only[zA]at ht;subst ht;cases E5 with | t h=>cases h;rfl
      ·cases ht
     simp only[zcB,h1,ih,zD,Option.map_some]
theorem zmT {w:World} {A:Nat->Prop} {nm μ:Nat->Nat} {H:Nat->Option O} {x:V} {k:T} {kd:Nat} {v:Value} (h:zj1 kd x=some k) (hv:zbl w A nm μ H v x):zcA k=some v/\zvy k kd:=by
 unfold zj1 at h;split at h
 ·split at h
  ·rename_i hk;simp only[zA]at h;subst h;subst hk;cases hv.t_inv;exact⟨rfl,.inl rfl⟩
  ·cases h
 ·split at h
  ·rename_i hk;simp only[zA]at h;subst h;subst hk;cases hv.t_inv;exact⟨rfl,.inl rfl⟩
  ·cases h
 ·split at h
  ·rename_i hk;simp only[zA]at h;subst h;subst hk;cases hv.t_inv;exact⟨rfl,.inl rfl⟩
  ·cases h
 ·simp only[zB]at h;obtain⟨ts,FR,h⟩:=h;split at h
  ·rename_i hk;simp only[zA]at h;subst h;obtain⟨xs,rfl,hr⟩:=hv.agg_inv;have:=zg9 hr FR;exact⟨by simp[zcA,this],.inr ⟨ts,rfl,hk⟩⟩
  ·cases h
 ·cases h
theorem zgt {d:TypeDesc} {v u:Value} {x y:T} {b:Bool} (hv:zcA x=some v) (hu:zcA y=some u) (he:zeu x y=some b)
 {kd:Nat} (hd:zfv d=some kd) (hx:x.kind=some kd):Instr.sameNow d v u=some b:=by
 unfold zeu at he;split at he
 ·simp only[zcA,zA]at hv hu;subst hv hu;split at he
  ·rename_i hk;simp only[zA]at he;subst hk;cases d<;>simp[zfv]at hd<;>subst hd<;>simp[T.kind]at hx
   simp[Instr.sameNow,he]
  ·simp at he
 ·simp only[zcA,zA]at hv hu;subst hv hu;simp only[zA]at he;cases d<;>simp[zfv]at hd<;>subst hd<;>simp[T.kind]at hx
  simp[Instr.sameNow,he]
 ·simp only[zcA,zA]at hv hu;subst hv hu;simp only[zA]at he;cases d<;>simp[zfv]at hd<;>subst hd<;>simp[T.kind]at hx
  simp[Instr.sameNow,he]
 ·simp[T.kind]at hx
 ·simp at he
theorem zmp: ∀{ts:List T} {vs:List Value},zcB ts=some vs->((vs.zip vs).all fun(x,y)=>Instr.sameBits 9999 x y)=true
 | [],vs,h=>by simp only[zcB,zA]at h;subst h;rfl
 | t::ts,vs,h=>by
   simp only[zcB,zB,zE]at h;obtain⟨v,hv,vs',Au,rfl⟩:=h;have ih:=zmp Au;simp only[List.zip_cons_cons,List.all_cons,ih,Bool.and_true];have hb: ∀s:ByteArray,(s==s)=true:=fun s=>by show(s.data==s.data)=true;simp
   cases t<;>simp[zgA]at hv<;>subst hv<;>simp[Instr.sameBits,hb]
theorem zuE {ts:List T} {k:T} {b:Bool} (h:zeu (.sl [ts]) k=some b): ∃us,k= .sl [us]/\zfw ts us=some b:=by
 cases k with
 | sl es=>
   match es,h with
   | [],h=>simp[zeu]at h
   | [us],h=>exact⟨us,rfl,h⟩
   | _::_::_,h=>simp[zeu]at h
 | _=>simp[zeu]at h
theorem zkK {v u:Value} {x y:T} (hv:zcA x=some v) (hu:zcA y=some u) (he:zeu x y=some true):Instr.sameBits 10000 u v=true:=by
 unfold zeu at he;split at he
 ·simp only[zcA,zA]at hv hu;subst hv hu;split at he
  ·rename_i hk;simp only[zA,beq_iff_eq]at he;subst hk;subst he;simp[Instr.sameBits]
  ·simp at he
 ·simp only[zcA,zA]at hv hu;subst hv hu;simp only[zA]at he;have:=zy3 he;subst this;simpa[Instr.sameBits]using he
 ·simp only[zcA,zA]at hv hu;subst hv hu;simp only[zA,beq_iff_eq]at he;subst he;simp[Instr.sameBits]
 ·simp only[zcA,zE]at hv hu;obtain⟨vs,Au,rfl⟩:=hv;obtain⟨ws,Fy,rfl⟩:=hu;have:=zjg Au Fy he;subst this;have h1:=zmp Au;simp only[Instr.sameBits,beq_self_eq_true,Bool.true_and];simpa using h1
 ·simp at he
def zic (w:World) (A:Nat->Prop) (nm μ:Nat->Nat) (H:Nat->Option O) (ms:List MapEntry) (es:List (T×V)):Prop:=
 ms.length=es.length/\ ∀(i:Nat) (k:T) (x:V),es[i]? =some (k,x)-> ∃m,ms[i]? =some m/\zcA k=some m.key/\zcl w A nm μ H m.val x
section
variable {P:Program} {w:World}
theorem zie {t:TypeId} {ks:List Nat} {xs ys:Array Value} {as bs:List V} {r:Bool} {A:Nat->Prop} {nm μ:Nat->Nat} {H:Nat->Option O} (ht:zdB P t=some ks)
 (hx:zfk w A nm μ H xs.toList as) (hy:zfk w A nm μ H ys.toList bs) (hr:zbh ks as bs=some r):(Op.equal t (.agg xs) (.agg ys)).run P w= .ok r w:=by
 unfold zdB at ht;split at ht
 ·rename_i fields CW;split at ht
  ·rename_i hc;have I9:P.fieldsOf t=fields:=by simp[Program.fieldsOf,CW]
   have h0:=zhM (P:=P) (i:=0) 9998 ht hx hy (by simpa using hr);have:=run_equalIn_struct (P:=P) w 9999 t xs ys (by rw[I9];exact CW) hc.1;show(Op.equalIn 10000 t (.agg xs) (.agg ys)).run P w= .ok r w;rw[this,I9];exact h0
  ·cases ht
 ·cases ht
theorem zfs: ∀{fs:List Field} {i:Nat} {ks:List Nat},zbu P i fs=some ks->ks.length=fs.length
 | [],i,ks,h=>by simp only[zbu,zA]at h;subst h;rfl
 | f::fs,i,ks,h=>by
   simp only[zbu,zC,zB]at h;obtain⟨k,hk,ks',Dn,h⟩:=h;split at h
   ·simp only[zA]at h;subst h;simp[zfs Dn]
   ·cases h
theorem zkd {ks:List Nat} {x:T} {v:Value} {t:TypeId} (hp:zdB P t=some ks) (hx:zvy x (3+zjh ks)) (hv:zcA x=some v): ∃ts vs,x= .sl [ts]/\ks=ts.map T.kindN/\zcB ts=some vs/\v= .agg vs.toArray:=by
 rcases hx with hx | ⟨ts,rfl,hk⟩
 ·exfalso;cases x<;>simp[T.kind]at hx<;>omega
 ·simp only[zcA,zE]at hv;obtain⟨vs,Au,rfl⟩:=hv;exact⟨ts,vs,rfl,zmX (zqk hp) (zuC ts) (by omega),Au,rfl⟩
theorem zhN {kt:TypeId} {kd:Nat} {k:T} {v:Value} (b:Bool) (ht:ztx P kt kd) (hk:zvy k kd) (hv:zcA k=some v):(Instr.checkKey b 10000 kt v).run P w= .ok () w:=by
 rcases ht with⟨d,hu,hd,AB⟩ | ⟨ks,hp,rfl⟩
 ·exact zgQ (n:=9999) AB
 ·obtain⟨ts,vs,rfl,Dn,Au,rfl⟩:=zkd hp hk hv
  have Ac:vs.length=ks.length:=by
   have:=(ze7 (w:=w) (A:=fun _=>True) (nm:=id) (μ:=id) (H:=fun _=>none) Au).1;rw[Dn];simpa using this
  unfold zdB at hp;split at hp
  ·rename_i fields CW;split at hp
   ·have VL:=zfs hp;rw[show(10000:Nat)=9999+1 from rfl,Instr.checkKey];simp only[Sem.run_bind,zau CW,Result.andThen_ok];rw[<- Array.forIn_toList];have A5:0+fields.toList.length<=vs.toArray.size:=by simp at VL⊢;omega
    clear VL Ac Dn hk hv
    generalize fields.toList=L at hp A5
    generalize(0:Nat)=i at hp A5
    induction L generalizing i ks with
    | nil=>simp
    | cons f L ih=>
      simp only[zbu,zC,zB]at hp;obtain⟨k,Q0,ks',NE,hp⟩:=hp;split at hp
      ·rename_i CG;obtain⟨hn,ho,DV⟩:=CG;obtain⟨inf,g1,g2,g3,g4⟩:=zbr DV;simp only[List.length_cons]at A5;obtain⟨u,hu⟩: ∃u,vs.toArray[i]? =some u:=⟨_,Array.getElem?_eq_getElem (by omega)⟩
       have Jh:(part f.type vs.toArray f.offset).run P w= .ok u w:=by
        simp only[part,Sem.run_bind,g4 w,Result.andThen_ok,ho];simp only[hu];rfl
       have p2:(Instr.checkKey b 9999 f.type u).run P w= .ok () w:=zgQ (n:=9998) Q0;simp only[List.forIn_cons,Sem.run_bind,hn,ne_eq,not_false_eq_true,if_true,Result.andThen_ok,Jh,p2,Sem.run_pure];exact ih _ _ NE (by omega)
      ·cases hp
   ·cases hp
  ·cases hp
theorem zpy {A:Nat->Prop} {nm μ:Nat->Nat} {H:Nat->Option O} {d:TypeDesc} {v:Value} {x:T} (hv:zcA x=some v) {kd:Nat} (hd:zfv d=some kd) (hx:x.kind=some kd):
 ∀(es:List (T×V)) (ms:List MapEntry) (j:Nat) (r:Option V),zic w A nm μ H ms es->zbo x es=some r->
  match r with
  | none=>Instr.findNow d v ms j=some none/\ ∀u,zbF x u es=some (es++[(x,u)])
  | some q=> ∃i m,Instr.findNow d v ms j=some (some (j+i,m.val))/\ms[i]? =some m/\zcl w A nm μ H m.val q/\Instr.sameBits 10000 m.key v=true/\ ∀u,zbF x u es=some (es.set i (x,u))
 | [],ms,j,r,h,hf=>by
   simp only[zbo,zA]at hf;subst hf;obtain⟨h1,_⟩:=h;have:ms=[]:=by simpa using h1
   subst this
   exact⟨rfl,fun u=>rfl⟩
 | (k,y)::es,ms,j,r,h,hf=>by
   obtain⟨h1,h2⟩:=h
   cases ms with
   | nil=>simp at h1
   | cons m ms=>
     obtain⟨m',Fm,hk,BP⟩:=h2 0 k y rfl;simp only[List.getElem?_cons_zero,zA]at Fm;subst Fm;simp only[zbo]at hf;split at hf
     ·simp at hf
     ·rename_i Ej;simp only[zA]at hf;subst hf;exact⟨0,m,by simp[Instr.findNow,zgt hv hk Ej hd hx],rfl,BP,zkK hv hk Ej,fun u=>by simp[zbF,Ej]⟩
     ·rename_i Ej;have CQ:zic w A nm μ H ms es:=⟨by simpa using h1,fun i k' x' hi=>h2 (i+1) k' x' (by simpa using hi)⟩
      have ih:=zpy hv hd hx es ms (j+1) r CQ hf
      cases r with
      | none=>exact⟨by simp[Instr.findNow,zgt hv hk Ej hd hx,ih.1],fun u=>by simp[zbF,Ej,ih.2 u]⟩
      | some q=>
        obtain⟨i,m',h3,h4,h5,h6,h7⟩:=ih;refine⟨i+1,m',?_,by simpa using h4,h5,h6,fun u=>by simp[zbF,Ej,h7 u]⟩;simp only[Instr.findNow,zgt hv hk Ej hd hx,h3]
        congr 3;omega
theorem zpz {A:Nat->Prop} {nm μ:Nat->Nat} {H:Nat->Option O} {kt:TypeId} {ts:List T} {vs:List Value} (hp:zdB P kt=some (ts.map T.kindN)) (hv:zcB ts=some vs):
 ∀(es:List (T×V)) (ms:List MapEntry) (j:Nat) (r:Option V),zic w A nm μ H ms es->zbo (.sl [ts]) es=some r->
  match r with
  | none=>(Instr.findAsking kt (.agg vs.toArray) ms j).run P w= .ok none w/\ ∀u,zbF (.sl [ts]) u es=some (es++[(.sl [ts],u)])
  | some q=> ∃i m,(Instr.findAsking kt (.agg vs.toArray) ms j).run P w= .ok (some (j+i,m.val)) w/\ms[i]? =some m/\zcl w A nm μ H m.val q/\Instr.sameBits 10000 m.key (.agg vs.toArray)=true/\ ∀u,zbF (.sl [ts]) u es=some (es.set i (.sl [ts],u))
 | [],ms,j,r,h,hf=>by
   simp only[zbo,zA]at hf;subst hf;obtain⟨h1,_⟩:=h;have:ms=[]:=by simpa using h1
   subst this
   exact⟨by simp[Instr.findAsking],fun u=>rfl⟩
 | (k,y)::es,ms,j,r,h,hf=>by
   obtain⟨h1,h2⟩:=h
   cases ms with
   | nil=>simp at h1
   | cons m ms=>
     obtain⟨m',Fm,hk,BP⟩:=h2 0 k y rfl;simp only[List.getElem?_cons_zero,zA]at Fm;subst Fm
     have J7: ∀b,zeu (.sl [ts]) k=some b->(Op.equal kt (.agg vs.toArray) m.key).run P w= .ok b w:=fun b hb=>by
      obtain⟨us,rfl,hb⟩:=zuE hb;simp only[zcA,zE]at hk;obtain⟨ws,Fy,AB⟩:=hk;rw[<- AB];exact zie (A:=A) (nm:=nm) (μ:=μ) (H:=H) hp (by simpa using ze7 hv) (by simpa using ze7 Fy) (zmU hb)
     simp only[zbo]at hf;split at hf
     ·simp at hf
     ·rename_i Ej;simp only[zA]at hf;subst hf;exact⟨0,m,by simp[Instr.findAsking,J7 _ Ej],rfl,BP,zkK (by simp[zcA,hv]) hk Ej,fun u=>by simp[zbF,Ej]⟩
     ·rename_i Ej;have CQ:zic w A nm μ H ms es:=⟨by simpa using h1,fun i k' x' hi=>h2 (i+1) k' x' (by simpa using hi)⟩
      have ih:=zpz hp hv es ms (j+1) r CQ hf
      cases r with
      | none=>exact⟨by simp[Instr.findAsking,J7 _ Ej,ih.1],fun u=>by simp[zbF,Ej,ih.2 u]⟩
      | some q=>
        obtain⟨i,m',h3,h4,h5,h6,h7⟩:=ih;refine⟨i+1,m',?_,by simpa using h4,h5,h6,fun u=>by simp[zbF,Ej,h7 u]⟩;simp only[Instr.findAsking,Sem.run_bind,J7 _ Ej,Result.andThen_ok,zG,if_false,h3];have:j+1+i=j+(i+1):=by omega
        rw[this]
theorem zpx {A:Nat->Prop} {nm μ:Nat->Nat} {H:Nat->Option O} {kt:TypeId} {kd:Nat} {v:Value} {x:T} (ht:ztx P kt kd) (hx:zvy x kd) (hv:zcA x=some v) {es:List (T×V)} {ms:List MapEntry} {r:Option V} (he:zic w A nm μ H ms es) (hf:zbo x es=some r):
 match r with
 | none=>(Instr.findKey kt v ms).run P w= .ok none w/\ ∀u,zbF x u es=some (es++[(x,u)])
 | some q=> ∃i m,(Instr.findKey kt v ms).run P w= .ok (some (i,m.val)) w/\ms[i]? =some m/\zcl w A nm μ H m.val q/\Instr.sameBits 10000 m.key v=true/\ ∀u,zbF x u es=some (es.set i (x,u)):=by
 rcases ht with⟨d,hu,hd,AB⟩ | ⟨ks,hp,rfl⟩
 ·have PE:x.kind=some kd:=by
   rcases hx with hx | ⟨ts,rfl,hk⟩
   ·exact hx
   ·have:=zsm AB;omega
  have h:=zpy (w:=w) (A:=A) (nm:=nm) (μ:=μ) (H:=H) hv hd PE es ms 0 r he hf
  cases r with
  | none=>exact⟨by simp[Instr.findKey,zau hu,h.1],h.2⟩
  | some q=>
    obtain⟨i,m,h1,h2,h3,h4,h5⟩:=h;exact⟨i,m,by simp[Instr.findKey,zau hu,h1],h2,h3,h4,h5⟩
 ·obtain⟨ts,vs,rfl,rfl,Au,rfl⟩:=zkd hp hx hv
  have AE: ∃fields,P.underlying kt=some (.struct fields):=by
   unfold zdB at hp;split at hp
   ·rename_i fields CW;exact⟨fields,CW⟩
   ·cases hp
  obtain⟨fields,CW⟩:=AE
  have Fp:(Instr.findKey kt (.agg vs.toArray) ms).run P w=(Instr.findAsking kt (.agg vs.toArray) ms).run P w:=by
   cases ms with
   | nil=>simp[Instr.findKey,zau CW,Instr.findNow,Instr.findAsking]
   | cons m ms=>simp[Instr.findKey,zau CW,Instr.findNow,Instr.sameNow]
  have h:=zpz (w:=w) (A:=A) (nm:=nm) (μ:=μ) (H:=H) hp Au es ms 0 r he hf;rw[Fp]
  cases r with
  | none=>exact h
  | some q=>
    obtain⟨i,m,h1,h2,h3,h4,h5⟩:=h;exact⟨i,m,by rw[h1];simp,h2,h3,h4,h5⟩
end
theorem zi6 {k:T} {v:V}: ∀{es:List (T×V)},zbo k es=none->zbF k v es=none
 | [],h=>by simp[zbo]at h
 | (k',v')::es,h=>by
   simp only[zbo]at h;simp only[zbF]
   cases hk:zeu k k' with
   | none=>rfl
   | some b=>
     rw[hk]at h
     cases b with
     | true=>simp at h
     | false=>simp only at h⊢;rw[zi6 h];rfl
section
variable {P:Program} {N:Nam} {I:Inv} {c:Ctx} {ns p:Nat} {A:Nat->Prop} {μ lam:Nat->Nat} {s:St} {a:Act} {w:World} {e:Eff} {o:Oper}
theorem zrD (R:Rel N c ns A μ lam s a w) {t kt et:TypeId} {h:Option Operand} (hu:P.underlying t=some (.map kt et)) (hh: ∀x,h=some x-> ∃k n,a.eval x= .int k n) (ho:o.op= .makeMap t h)
 (hd: ∀x,o.dst=some x->x<ns) (hf:s.free o.dst e) (hk:s.heap (s.bas+p)=none) (hn:s.bas+p<s.nxt) (he:zaj N.G p s .mkmap=some e):zeB P N c ns o a w (s.apply o.dst e):=by
 simp only[zaj,zA]at he;subst he;have R1:=(R.alloc (.map #[] 0)).adoptH (o:=.map []) (r:=w.heap.size) hk hn R.orphan_new ⟨#[],0,zdT w _,rfl,by simp⟩ (by simp);refine⟨.map (some w.heap.size),_,A,_,lam,.inl ?_,R1.put o.dst { val:=.mm (s.bas+p) } _ hd hf rfl rfl rfl ?_ (by simp)⟩
 ·cases h with
  | none=>simp[execOp,ho,Instr.makeMap]
  | some x=>
    obtain⟨k,n,hx⟩:=hh x rfl;simp[execOp,ho,Instr.makeMap,zau hu,hx,asInt,asIntOf]
 ·have:=RepC.mm (w:=w.alloc (.map #[] 0)) (A:=A) (nm:=N.nm) (μ:=upd μ (s.bas+p) w.heap.size) (H:=upd s.heap (s.bas+p) (some (.map []))) (s.bas+p) [] (by simp);simpa using this.toV
theorem zra {t:TypeId} {z:V} {H:Nat->Option O} (h:ztK P t=some z): ∃v,(∀w,(zeroValue t).run P w= .ok v w)/\ ∀w,zcl w A N.nm μ H v z:=by
 simp only[ztK,zC,zB]at h;obtain⟨i,hi,v,hv,h⟩:=h;refine⟨v,fun w=>by simp[zeroValue,zgP hi,hv],fun w=> ?_⟩;unfold zjz at h;split at h
 ·simp only[zE]at h;obtain⟨cs,AL,rfl⟩:=h;obtain⟨h1,h2⟩:=zbb AL;exact⟨_,rfl,h1,fun i c hi=>let⟨x,hx,hf⟩:=h2 i c hi;⟨x,hx,zeS hf⟩⟩
 ·exact(zeS h).toV1
theorem zbl.mm_inv {v:Value} {k:Nat} {es:List (T×V)} {H:Nat->Option O} {nm:Nat->Nat} (hk:H k=some (.map es)) (h:zbl w A nm μ H v (.mm k)):v= .map (some (μ k)):=by
 cases(h:RepC w A nm μ H v (.mm k))with
 | mm _ _ _=>rfl
 | dmm _ Ah _=>rw[hk]at Ah;simp at Ah
theorem zt2 (hI:I.Ok N) (R:Rel N c ns A μ lam s a w) {t kt et:TypeId} {kd:Nat} {x y:Operand} {x' y':Opd} {z:V} {ok:Bool} (hx:opd I x=some x') (hy:opd I y=some y')
 (hu:P.underlying t=some (.map kt et)) (Lq:ztx P kt kd) (hz:ztK P et=some z) (he:zaj N.G p s (.lookup kd z ok x' y')=some e):
 zdb N A μ s w ((Instr.lookup t (a.eval x) (a.eval y) ok).run P w) e:=by
 simp only[zaj,zC,zB]at he;obtain⟨kv,Eh,key,Ck,mv,FU,es,Ey,r,hr,he⟩:=he;obtain⟨Hz,AB⟩:=zmT Ck (zat hI R hy Eh);have Ju:=zat hI R hx FU;obtain⟨zv,ON,P0⟩:=zra (A:=A) (N:=N) (μ:=μ) (H:=s.heap) hz
 generalize MQ:a.eval x=vx at Ju
 generalize IR:a.eval y=vy at Hz
 have ER: ∃ms:Array MapEntry,zic w A N.nm μ s.heap ms.toList es/\((vx= .map none/\ms= #[])\/ ∃r n,vx= .map (some r)/\w.heap[r]? =some (.map ms n)):=by
  split at Ey
  ·simp only[zA]at Ey;subst Ey;have:vx= .map none:=by cases Ju.t_inv;rfl
   exact⟨#[],⟨rfl,by simp⟩,.inl ⟨this,rfl⟩⟩
  ·split at Ey
   ·rename_i j es' hj;simp only[zA]at Ey;subst Ey;have hv:=zbl.mm_inv hj Ju;obtain⟨ms,n,h1,h2,h3⟩:=R.heap _ _ hj;refine⟨ms,⟨by simpa using h2,fun i k x hi=> ?_⟩,.inr ⟨_,n,hv,h1⟩⟩;obtain⟨m,hm,CP⟩:=h3 i k x hi;exact⟨m,by simpa using hm,CP⟩
   ·simp at Ey
  ·simp at Ey
 obtain⟨ms,FY,Lg⟩:=ER;have D2:=zpx (P:=P) (w:=w) Lq AB Hz FY hr;have FG:(Instr.checkKey ms.isEmpty 10000 kt vy).run P w= .ok () w:=zhN _ Lq AB Hz
 have BP: ∀(q:Value) (b:Bool),zcl w A N.nm μ s.heap q (r.getD z)->b=r.isSome->zbl w A N.nm μ s.heap (if ok then .tuple #[q,.bool b]else q) e.val/\Plain e:=by
  intro q b hq hb;subst hb
  cases ok with
  | false=>
    simp only[zG,if_false,zA]at he;subst he
    exact⟨hq.toV,rfl,rfl,rfl,rfl⟩
  | true=>
    simp only[if_true,zA]at he;subst he;refine⟨⟨_,rfl,rfl,fun i c hi=> ?_⟩,rfl,rfl,rfl,rfl⟩
    match i,hi with
    | 0,hi=>simp at hi;subst hi;exact⟨q,rfl,hq⟩
    | 1,hi=>simp at hi;subst hi;exact⟨.bool r.isSome,rfl,(RepC.t (.bool _)).toV1⟩
    | i+2,hi=>simp at hi
 cases r with
 | none=>
   have Fp:=D2.1;refine⟨_,?_,BP zv false (P0 w) rfl⟩;rcases Lg with⟨rfl,rfl⟩ | ⟨r,n,rfl,h1⟩
   ·simp only[Instr.lookup,Sem.run_bind,zau hu,Result.andThen_ok,Sem.run_pure,FG,Fp,ON]
   ·simp only[Instr.lookup,Sem.run_bind,zau hu,Result.andThen_ok,Sem.run_pure,zfX h1,FG,Fp,ON]
 | some q=>
   obtain⟨i,m,h1,h2,h3,h4,h5⟩:=D2;have Fp:=h1;refine⟨_,?_,BP m.val true h3 rfl⟩;rcases Lg with⟨rfl,rfl⟩ | ⟨r,n,rfl,h1⟩
   ·simp only[Instr.lookup,Sem.run_bind,zau hu,Result.andThen_ok,Sem.run_pure,FG,Fp]
   ·simp only[Instr.lookup,Sem.run_bind,zau hu,Result.andThen_ok,Sem.run_pure,zfX h1,FG,Fp]
theorem zoV (hI:I.Ok N) (R:Rel N c ns A μ lam s a w) {t kt et:TypeId} {kd:Nat} {x y v:Operand} {x' y' v':Opd} (hx:opd I x=some x') (hy:opd I y=some y') (hv:opd I v=some v')
 (hu:P.underlying t=some (.map kt et)) (Lq:ztx P kt kd) (ho:o.op= .mapUpdate t x y v\/o.op= .insert t x y v)
 (he:zaj N.G p s (.mapupd kd x' y' v')=some e) (Bt:o.dst=none):zeB P N c ns o a w (s.apply o.dst e):=by
 simp only[zaj,zC,zB]at he;obtain⟨kv,Eh,key,Ck,u,Es,mv,FU,he⟩:=he;obtain⟨Hz,AB⟩:=zmT Ck (zat hI R hy Eh);have Ju:=zat hI R hx FU;have E5:=zat hI R hv Es;split at he
 ·rename_i j;split at he
  ·rename_i es hj;simp only[zB]at he;obtain⟨es',Ib,he⟩:=he;split at he
   ·rename_i Nu;simp only[zA]at he;subst he
    have AX:zcl w A N.nm μ s.heap (a.eval v) u:=by
     cases u<;>first | exact E5 | simp[V.one]at Nu
    have MQ:=zbl.mm_inv hj Ju;obtain⟨ms,n,h1,h2,h3⟩:=R.heap _ _ hj
    have ER:zic w A N.nm μ s.heap ms.toList es:=⟨by simpa using h2,fun i k x hi=>by
     obtain⟨m,hm,CP⟩:=h3 i k x hi
     exact⟨m,by simpa using hm,CP⟩⟩
    have Ad:μ j<w.heap.size:=R.lt_live hj rfl
    have DE: ∃r,zbo key es=some r:=by
     cases hq:zbo key es with
     | some r=>exact⟨r,rfl⟩
     | none=>rw[zi6 hq]at Ib;simp at Ib
    obtain⟨r,hr⟩:=DE;have FG: ∀b,(Instr.checkKey b 10000 kt (a.eval y)).run P w= .ok () w:=fun b=>zhN b Lq AB Hz
    have D2:=zpx (P:=P) (w:=w) Lq AB Hz ER hr
    have Cf: ∀(ms':Array MapEntry) (n':Nat),(Instr.mapUpdate t (a.eval x) (a.eval y) (a.eval v)).run P w= .ok () (World.setMap w (μ j) (.map ms' n'))->
     (∀H',Evo w A μ s.heap (World.setMap w (μ j) (.map ms' n')) A μ H'->zic (World.setMap w (μ j) (.map ms' n')) A N.nm μ H' ms'.toList es')->zeB P N c ns o a w (s.apply o.dst { hp:=[(j,.map es')] }):=by
     intro ms' n' A3 Ae
     have R1:=R.changeH (o':= .map es') (w':=World.setMap w (μ j) (.map ms' n')) hj (by simp[O.le]) rfl (by simp) (by simp) rfl (by simp[World.setMap])
      (fun r hr=>by simp only[World.setMap,Array.getElem?_setIfInBounds];rw[if_neg (Ne.symm hr)])
      (fun r x hr=>by
        by_cases OW:r=μ j
        ·subst OW;simp[World.shape?,h1]at hr
        ·simp only[World.shape?,World.setMap,Array.getElem?_setIfInBounds]at hr⊢
         rw[if_neg (Ne.symm OW)];exact hr)
      (fun E=>by
        obtain⟨g1,g2⟩:=Ae _ E;refine⟨ms',n',by simp[World.setMap,Ad],by simpa using g1,fun i k x hi=> ?_⟩;obtain⟨m,hm,CP⟩:=g2 i k x hi
        exact⟨m,by simpa using hm,CP⟩)
     refine⟨undef,World.setMap w (μ j) (.map ms' n'),A,μ,lam,.inr ⟨?_,rfl⟩,?_⟩
     ·rcases ho with ho | ho<;>simp only[execOp,ho,Sem.run_bind,A3,Result.andThen_ok,Sem.run_pure]
     ·rw[Bt];exact R1
    cases r with
    | none=>
      have Fp:=D2.1;have EQ:=D2.2 u;rw[Ib]at EQ;simp only[zA]at EQ;subst EQ;refine Cf (ms.push { key:=a.eval y,val:=a.eval v,born:=n }) (n+1) ?_ ?_
      ·simp only[Instr.mapUpdate,Sem.run_bind,zau hu,Result.andThen_ok,MQ,zfX h1,FG,Fp,zkn _ h1]
      ·intro H' E;refine⟨by simp[h2],fun i k x hi=> ?_⟩;rw[List.getElem?_append]at hi;split at hi
       ·rename_i AV;obtain⟨m,hm,g1,g3⟩:=ER.2 i k x hi;have:i<ms.size:=by omega
        refine⟨m,by rw[Array.toList_push,List.getElem?_append_left (by simpa using this)];exact hm,g1,g3.evo E⟩
       ·rename_i AV
        have:i=es.length:=by
         have:=(zH.1 hi).1;simp at this;omega
        subst this;simp at hi;obtain⟨rfl,rfl⟩:=hi
        exact⟨{ key:=a.eval y,val:=a.eval v,born:=n },by simp[<- h2],Hz,AX.evo E⟩
    | some q=>
      obtain⟨i,m,g1,g2,g3,g4,g5⟩:=D2;have Fp:=g1;have EQ:=g5 u;rw[Ib]at EQ;simp only[zA]at EQ;subst EQ;have Pc:ms[i]? =some m:=by simpa using g2
      refine Cf (ms.modify i fun e=>{ e with key:=a.eval y,val:=a.eval v }) n ?_ ?_
      ·simp only[Instr.mapUpdate,Sem.run_bind,zau hu,Result.andThen_ok,MQ,zfX h1,FG,Fp,zkn _ h1,Pc,Option.map_some,Option.getD_some,Instr.keyThatStays,g4,if_true,Sem.run_pure]
      ·intro H' E;refine⟨by simp[h2],fun i' k x hi=> ?_⟩;rcases ziJ hi with⟨rfl,ND⟩ | ⟨Az,hi⟩
       ·simp only[Prod.mk.injEq]at ND;obtain⟨rfl,rfl⟩:=ND;exact⟨{ m with key:=a.eval y,val:=a.eval v },by simp[Pc],Hz,AX.evo E⟩
       ·obtain⟨m',Fm,j1,j3⟩:=ER.2 i' k x hi;exact⟨m',by simpa[Array.getElem?_modify,Ne.symm Az]using Fm,j1,j3.evo E⟩
   ·simp at he
  ·simp at he
 ·simp at he
end
end Rg
end
section
namespace Rg
open Go
def zmY (H:Nat->Option O) (k:Nat):Prop:= ∃sz rs f,H k=some (.rows sz rs f)
section
variable {w:World} {A:Nat->Prop} {N:Nam} {μ:Nat->Nat} {H:Nat->Option O}
theorem zgZ {d k:Nat} {sz:Nat} {rs:List (List V)} {frz:Bool} (hk:H k=some (.rows sz rs frz)) {i j:Nat} {row:List V} {x:V} (h1:rs[i]? =some row) (h2:row[j]? =some x) {q:Nat} (hq:q∈zca H d x):
 q∈(match H k with | some (.rows _ rs _)=>rs.flatMap (fun(row:List V)=>row.flatMap (zca H d)) | _=>([]:List Nat)):=by
 rw[hk];exact List.mem_flatMap.2 ⟨row,zL h1,List.mem_flatMap.2 ⟨x,zL h2,hq⟩⟩
theorem zk8 (hH: ∀k o,H k=some o->zq3 w A N μ H (μ k) o): ∀(d:Nat) (x:V) (t:T) (v:Value),toT H d x=some t->RepC w A N.nm μ H v x->
 RepT w (fun r=>A r\/ ∃k∈zca H d x,zmY H k/\μ k=r) N.nm v t:=by
 intro d
 induction d with
 | zero=>
   intro x t v ht hr
   cases x with
   | t y=>
     simp only[toT,zA]at ht;subst ht
     exact(zbl.t_inv (w:=w) hr.toV).norm.mono (fun _ _=>rfl) (fun _ h=> .inl h)
   | _=>simp[toT]at ht
 | succ d ih=>
   intro x t v ht hr
   cases x with
   | t y=>
     simp only[toT,zA]at ht;subst ht
     exact(zbl.t_inv (w:=w) hr.toV).norm.mono (fun _ _=>rfl) (fun _ h=> .inl h)
   | ms k i len=>
     simp only[toT]at ht;split at ht
     ·rename_i sz rs frz hk;simp only[zC,zB,zA]at ht;obtain⟨r,BK,es,Ey,rfl⟩:=ht;obtain⟨AO,C7⟩:=zbb Ey
      cases hr with
      | ms _ _ _ cap sz' rs' frz' ad Ah AK hc ha=>
        rw[hk]at Ah;cases Ah;unfold rd at BK;rw[if_pos AK]at BK;simp only[zA]at BK;subst BK;have Ac:es.length=len:=by rw[<- AO];simp;omega
        rcases Nat.eq_zero_or_pos len with h0 | h0
        ·subst h0;have:es=[]:=List.length_eq_zero_iff.1 Ac;subst this;exact .sl0 _ _
        ·obtain⟨rfl,e0,n0,FT,Cg⟩:=ha.resolve_left (by omega);obtain⟨cc,e1,z,h1,h2,h3,h4,h5⟩:=hH k _ hk;subst Ac
         have Ap: ∀(i':Nat) (e:List T),es[i']? =some e-> ∃row,rs[i+i']? =some row/\row.length=e.length/\ ∀(j:Nat) (y:T),e[j]? =some y-> ∃x,row[j]? =some x/\toT H d x=some y:=by
          intro i' e he;obtain⟨row,Ap,hm⟩:=C7 i' e he;obtain⟨m1,m2⟩:=zbb hm;rw[zO]at Ap;split at Ap
          ·rw[List.getElem?_drop]at Ap;exact⟨row,Ap,m1,m2⟩
          ·simp at Ap
         have AW: ∀(i':Nat) (e:List T) (j:Nat) (y:T),es[i']? =some e->e[j]? =some y-> ∃u x,w.cell? ⟨μ k,i*sz+i'*sz+j,none⟩=some u/\RepC w A N.nm μ H u x/\toT H d x=some y/\
          (∀q∈zca H d x,q∈zca H (d+1) (.ms k i es.length)):=by
          intro i' e j y he hj;obtain⟨row,g1,g2,g3⟩:=Ap i' e he;obtain⟨x,hx,ht⟩:=g3 j y hj;obtain⟨u,hu,hr⟩:=h5 _ row j x g1 hx;refine⟨u,x,?_,hr,ht,fun q hq=> ?_⟩
          ·rw[Nat.add_mul]at hu;simp[World.cell?,h1,hu]
          ·simp only[zca];exact List.mem_cons_of_mem _ (zgZ hk g1 hx hq)
         refine .sl (μ k) (i*sz) cap sz es (fun i' j=>(w.cell? ⟨μ k,i*sz+i'*sz+j,none⟩).getD undef) h0 (by omega) (.inr ⟨k,by simp[zca],⟨_,_,_,hk⟩,rfl⟩) ?_ ?_ ?_
         ·intro i' e he;obtain⟨row,g1,g2,g3⟩:=Ap i' e he;rw[<- g2];exact h4 _ row g1
         ·intro i' e j y he hj;obtain⟨u,x,hu,_⟩:=AW i' e j y he hj;rw[hu];rfl
         ·intro i' e j y he hj;obtain⟨u,x,hu,hr,ht,hq⟩:=AW i' e j y he hj;rw[hu]
          exact(ih x y u ht hr).mono (fun _ _=>rfl) (fun r h=>h.elim .inl fun⟨q,h1,h2⟩=> .inr ⟨q,hq q h1,h2⟩)
      | dms _ _ _ Ah=>rw[hk]at Ah;cases Ah
     ·simp at ht
   | mp k i off=>
     simp only[toT]at ht;split at ht
     ·rename_i sz rs frz hk;simp only[zC,zB,zA]at ht;obtain⟨row,Ap,cs,AL,rfl⟩:=ht;obtain⟨AO,C7⟩:=zbb AL
      cases hr with
      | mp _ _ _ sz' rs' frz' Ah AK=>
        rw[hk]at Ah;cases Ah;obtain⟨cc,e1,z,h1,h2,h3,h4,h5⟩:=hH k _ hk
        have AW: ∀(j:Nat) (y:T),cs[j]? =some y-> ∃u x,w.cell? ⟨μ k,i*sz+off+j,none⟩=some u/\RepC w A N.nm μ H u x/\toT H d x=some y/\
         (∀q∈zca H d x,q∈zca H (d+1) (.mp k i off)):=by
         intro j y hj;obtain⟨x,hx,ht⟩:=C7 j y hj;rw[List.getElem?_drop]at hx;obtain⟨u,hu,hr⟩:=h5 _ row _ x Ap hx;refine⟨u,x,?_,hr,ht,fun q hq=> ?_⟩
         ·rw[Nat.add_assoc];simp[World.cell?,h1,hu]
         ·simp only[zca];exact List.mem_cons_of_mem _ (zgZ hk Ap hx hq)
        refine .ip (μ k) (i*sz+off) cs (fun j=>(w.cell? ⟨μ k,i*sz+off+j,none⟩).getD undef) (.inr ⟨k,by simp[zca],⟨_,_,_,hk⟩,rfl⟩) ?_ ?_
        ·intro j y hj;obtain⟨u,x,hu,_⟩:=AW j y hj;rw[hu];rfl
        ·intro j y hj;obtain⟨u,x,hu,hr,ht,hq⟩:=AW j y hj;rw[hu]
         exact(ih x y u ht hr).mono (fun _ _=>rfl) (fun r h=>h.elim .inl fun⟨q,h1,h2⟩=> .inr ⟨q,hq q h1,h2⟩)
      | mb _ _ Ah=>rw[hk]at Ah;cases Ah
      | dmp _ _ _ Ah=>rw[hk]at Ah;cases Ah
     ·simp at ht
   | fn f a b=>
     simp only[toT,zC,zB,zA]at ht;obtain⟨a',Gd,b',Bf,rfl⟩:=ht;obtain⟨p1,p2⟩:=zbb Gd;obtain⟨q1,q2⟩:=zbb Bf
     cases hr with
     | fn _ _ _ va vb fa fb ha hb Bu Cu Di Eb=>
       refine .fn f a' b' va vb fa fb (by omega) (by omega) ?_ ?_ ?_ ?_
       ·intro j y hj;obtain⟨x,hx,_⟩:=p2 j y hj;exact Bu j x hx
       ·intro j y hj;obtain⟨x,hx,ht⟩:=p2 j y hj;refine(ih x y _ ht (Cu j x hx)).mono (fun _ _=>rfl) (fun r h=>h.elim .inl fun⟨q,h1,h2⟩=> .inr ⟨q,?_,h2⟩);simp only[zca];exact List.mem_append_left _ (List.mem_flatMap.2 ⟨x,zL hx,h1⟩)
       ·intro j y hj;obtain⟨x,hx,_⟩:=q2 j y hj;exact Di j x hx
       ·intro j y hj;obtain⟨x,hx,ht⟩:=q2 j y hj;refine(ih x y _ ht (Eb j x hx)).mono (fun _ _=>rfl) (fun r h=>h.elim .inl fun⟨q,h1,h2⟩=> .inr ⟨q,?_,h2⟩);simp only[zca]
        exact List.mem_append_right _ (List.mem_flatMap.2 ⟨x,zL hx,h1⟩)
   | mm k=>
     simp only[toT]at ht;split at ht
     ·simp only[zA]at ht;subst ht;exact .opq _ hr.one
     ·cases ht
   | yl k=>simp[toT]at ht
   | ifc k x=>simp[toT]at ht
   | agg cs=>simp[toT]at ht
   | tup cs=>simp[toT]at ht
   | undef=>simp[toT]at ht
   | lb=>simp[toT]at ht
theorem zk9 (hH: ∀k o,H k=some o->zq3 w A N μ H (μ k) o) {x y:V} {v:Value} (ht:toT1 H x=some y) (hr:zbl w A N.nm μ H v x) (μ':Nat->Nat) (H':Nat->Option O):
 zcl w (fun r=>A r\/ ∃k∈zba H x,zmY H k/\μ k=r) N.nm μ' H' v y:=by
 have key: ∀{x:V} {t:T},toT H 1000 x=some t->RepC w A N.nm μ H v x->RepT w (fun r=>A r\/ ∃k∈zca H 1000 x,zmY H k/\μ k=r) N.nm v t:=fun h1 h2=>zk8 hH 1000 _ _ _ h1 h2
 cases x with
 | agg cs=>
   simp only[toT1,zE]at ht;obtain⟨ts,FR,rfl⟩:=ht;obtain⟨vs,rfl,hl⟩:=hr;obtain⟨p1,p2⟩:=zbb FR;refine⟨vs,rfl,by rw[hl.1];simp[p1],fun i c hi=> ?_⟩;simp only[zJ,zE]at hi;obtain⟨t,ht,rfl⟩:=hi;obtain⟨x,hx,PB⟩:=p2 i t ht;obtain⟨u,hu,DU⟩:=hl.2 i x hx;refine⟨u,hu,.t ((zk8 hH 1000 x t u PB DU).mono (fun _ _=>rfl) (fun r h=>h.elim .inl fun⟨q,h1,h2⟩=> .inr ⟨q,?_,h2⟩))⟩;simp only[zba]
   exact List.mem_flatMap.2 ⟨x,zL hx,h1⟩
 | yl k=>simp[toT1,toT]at ht
 | ifc k x=>simp[toT1,toT]at ht
 | tup cs=>simp[toT1,toT]at ht
 | undef=>simp[toT1,toT]at ht
 | lb=>simp[toT1,toT]at ht
 | t z=>
   simp only[toT1,zE]at ht;obtain⟨t,ht,rfl⟩:=ht
   exact RepC.t (key ht hr)
 | ms k i l=>
   simp only[toT1,zE]at ht;obtain⟨t,ht,rfl⟩:=ht
   exact RepC.t (key ht hr)
 | mp k i o=>
   simp only[toT1,zE]at ht;obtain⟨t,ht,rfl⟩:=ht
   exact RepC.t (key ht hr)
 | mm k=>
   simp only[toT1,zE]at ht;obtain⟨t,ht,rfl⟩:=ht
   exact RepC.t (key ht hr)
 | fn f a b=>
   simp only[toT1,zE]at ht;obtain⟨t,ht,rfl⟩:=ht;exact RepC.t (key ht hr)
end
section
variable {N:Nam} {c:Ctx} {ns:Nat} {A:Nat->Prop} {μ lam:Nat->Nat} {s:St} {a:Act} {w:World}
theorem Rel.freezes (H0:Nat->Option O): ∀(l:List Nat) (A:Nat->Prop) (s:St),Rel N c ns A μ lam s a w->(∀k sz rs f,H0 k=some (.rows sz rs f)-> ∃f',s.heap k=some (.rows sz rs f'))->
 ∃A',Rel N c ns A' μ lam { s with heap:=zbf s.heap (freezes H0 l) } a w/\(∀r,A r->A' r)/\(∀k∈l,∀sz rs f,H0 k=some (.rows sz rs f)->A' (μ k))
 | [],A,s,R,_=>⟨A,R,fun _ h=>h,by simp⟩
 | k::l,A,s,R,h0=>by
   by_cases hk: ∃sz rs f,H0 k=some (.rows sz rs f)
   ·obtain⟨sz,rs,f,hk⟩:=hk;obtain⟨f',Ah⟩:=h0 k sz rs f hk;have R1:=R.freeze Ah
    obtain⟨A',R2,D5,Aj⟩:=Rel.freezes H0 l _ _ R1 (fun k1 sz1 rs1 f1 h1=>by
     by_cases e:k1=k
     ·subst e;rw[hk]at h1;cases h1;exact⟨true,by simp⟩
     ·obtain⟨f2,h2⟩:=h0 k1 sz1 rs1 f1 h1
      exact⟨f2,by simp only[zad _ _ e];exact h2⟩)
    refine⟨A',?_,fun r h=>D5 r (.inl h),fun k1 h1 sz1 rs1 f1 h2=> ?_⟩
    ·have:Rg.freezes H0 (k::l)=(k,.rows sz rs true)::Rg.freezes H0 l:=by simp[Rg.freezes,hk]
     rw[this];exact R2
    ·rcases List.mem_cons.1 h1 with rfl | h1
     ·exact D5 _ (.inr rfl)
     ·exact Aj k1 h1 sz1 rs1 f1 h2
   ·obtain⟨A',R2,D5,Aj⟩:=Rel.freezes H0 l A s R h0;refine⟨A',?_,D5,fun k1 h1 sz1 rs1 f1 h2=> ?_⟩
    ·have:Rg.freezes H0 (k::l)=Rg.freezes H0 l:=by
      simp only[Rg.freezes,List.filterMap_cons];split
      ·rfl
      ·rename_i x hx;split at hx
       ·rename_i sz rs f h;exact absurd ⟨sz,rs,f,h⟩ hk
       ·simp at hx
     rw[this];exact R2
    ·rcases List.mem_cons.1 h1 with rfl | h1
     ·exact absurd ⟨sz1,rs1,f1,h2⟩ hk
     ·exact Aj k1 h1 sz1 rs1 f1 h2
theorem RepC.scalar {w w':World} {A A':Nat->Prop} {nm μ μ':Nat->Nat} {H H':Nat->Option O} {v:Value} {x:V} (h:RepC w A nm μ H v x) (hx:x.scalar1=true):RepC w' A' nm μ' H' v x:=by
 cases x<;>simp[V.scalar1]at hx
 exact .t ((zbl.t_inv h.toV).scalar hx)
theorem zcl.scalar {w w':World} {A A':Nat->Prop} {nm μ μ':Nat->Nat} {H H':Nat->Option O} {v:Value} {x:V} (h:zcl w A nm μ H v x) (hx:x.scalar2=true):zcl w' A' nm μ' H' v x:=by
 cases x with
 | agg cs=>
   obtain⟨vs,rfl,h1,h2⟩:=h;refine⟨vs,rfl,h1,fun i c hi=> ?_⟩;obtain⟨u,hu,hr⟩:=h2 i c hi
   exact⟨u,hu,hr.scalar (List.all_eq_true.1 hx c (zL hi))⟩
 | t y=>exact RepC.scalar (x:=.t y) h hx
 | _=>simp[V.scalar2,V.scalar1]at hx
theorem zbl.scalar {w w':World} {A A':Nat->Prop} {nm μ μ':Nat->Nat} {H H':Nat->Option O} {v:Value} {x:V} (h:zbl w A nm μ H v x) (hx:x.scalar=true):zbl w' A' nm μ' H' v x:=by
 cases x with
 | tup cs=>
   obtain⟨vs,rfl,h1,h2⟩:=h;refine⟨vs,rfl,h1,fun i c hi=> ?_⟩;obtain⟨u,hu,hr⟩:=h2 i c hi
   exact⟨u,hu,hr.scalar (List.all_eq_true.1 hx c (zL hi))⟩
 | agg cs=>exact(zcl.scalar (x:=.agg cs) h hx).toV
 | t y=>exact(zcl.scalar (x:=.t y) h hx).toV
 | _=>simp[V.scalar,V.scalar2,V.scalar1]at hx
end
end Rg
end
