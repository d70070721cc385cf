/- Part of the proof of the laws of the package relyguardlaw12: an abstract machine for the program's functions, what they compute, and that the machine is the program's. No condition. (H21d H21e H21f H21g H21h) -/
import Derived.Test.YtadooimmjnipcaaGreatDoorPartBC
set_option linter.unusedSimpArgs false
set_option linter.unusedVariables false
section
namespace Rg
open Go
def OwnI (h:Nat->Option O) (lo hi:Nat) (v:V) (rows:List (List V)):Prop :=
 (v = .t (.sl [])/\rows=[]) \/ ∃ k,v = .ms k 0 rows.length/\lo<=k/\k<hi/\h k=some (.rows 1 rows false)
theorem OwnI.keep {h h' : Nat->Option O} {lo hi:Nat} {v:V} {rows:List (List V)} (o:OwnI h lo hi v rows) (hh : ∀ k,lo<=k->k<hi->h' k=h k):OwnI h' lo hi v rows:=by
 rcases o with o | ⟨k,h1,h2,h3,h4⟩
 ·exact .inl o
 ·exact .inr ⟨k,h1,h2,h3,by rw [hh k h2 h3]; exact h4⟩
theorem OwnI.val {h:Nat->Option O} {lo hi:Nat} {v:V} {rows:List (List V)} (o:OwnI h lo hi v rows):Rg.valOf v=some v/\V.cells v=some [v]:=by
 rcases o with ⟨rfl,_⟩ | ⟨k,rfl,_⟩ <;> exact ⟨rfl,rfl⟩
theorem OwnI.tree {h:Nat->Option O} {lo hi:Nat} {v:V} {l:List Int} (o:OwnI h lo hi v (rowsI l)) (d:Nat):toT h (d+1) v=some (ints l):=by
 rcases o with ⟨rfl,he⟩ | ⟨k,rfl,_,_,hh⟩
 ·have:l=[]:=by
   have:=congrArg List.length he
   rw [rowsI_len] at this
   exact List.eq_nil_of_length_eq_zero this
  subst this; rfl
 ·have htk:List.take (rowsI l).length (rowsI l)=rowsI l:=take_all rfl
  simp only [toT,hh,rd,Nat.zero_add,Nat.le_refl,if_true,List.drop_zero,htk,Option.bind_eq_bind,Option.bind_some,rowsI_toT]
def EntV (h:Nat->Option O) (lo hi:Nat) (r:List V) (e:Entry):Prop :=
 ∃ kc kv,r=[.ms kc 0 e.cells.length, .ms kv 0 e.values.length]/\lo<=kc/\kc<hi/\lo<=kv/\kv<hi/\h kc=some (.rows 1 (rowsI e.cells) false)/\h kv=some (.rows 1 (rowsI e.values) false)
theorem EntV.keep {h h' : Nat->Option O} {lo hi lo' hi' : Nat} {r:List V} {e:Entry} (o:EntV h lo hi r e) (h1:lo' <= lo) (h2:hi<=hi') (hh : ∀ k,lo<=k->k<hi->(∀ rs fz,h k≠some (.rows 2 rs fz))->h' k=h k):EntV h' lo' hi' r e:=by
 obtain ⟨kc,kv,e1,a1,a2,a3,a4,a5,a6⟩:=o
 exact ⟨kc,kv,e1,by omega,by omega,by omega,by omega,by rw [hh kc a1 a2 (by rw [a5]; simp)]; exact a5,by rw [hh kv a3 a4 (by rw [a6]; simp)]; exact a6⟩
theorem EntV.tree {h:Nat->Option O} {lo hi:Nat} {r:List V} {e:Entry} (o:EntV h lo hi r e) (d:Nat):r.mapM (toT h (d+1))=some (Entry.enc e):=by
 obtain ⟨kc,kv,rfl,a1,a2,a3,a4,a5,a6⟩:=o
 have h1:=OwnI.tree (h:=h) (lo:=lo) (hi:=hi) (v:=.ms kc 0 e.cells.length) (l:=e.cells) (.inr ⟨kc,by rw [rowsI_len],a1,a2,a5⟩) d
 have h2:=OwnI.tree (h:=h) (lo:=lo) (hi:=hi) (v:=.ms kv 0 e.values.length) (l:=e.values) (.inr ⟨kv,by rw [rowsI_len],a3,a4,a6⟩) d
 rw [List.mapM_cons,h1,List.mapM_cons,h2,List.mapM_nil]
 rfl
def BufV (h:Nat->Option O) (lo hi:Nat) (v:V) (b:List Entry):Prop :=
 ∃ rows,((v = .t .nils/\rows=[]) \/ ∃ k,v = .ms k 0 rows.length/\lo<=k/\k<hi/\h k=some (.rows 2 rows false))/\rows.length=b.length/\(∀ r∈rows,r.length=2) /\
  ∀ (j:Nat) (e:Entry),b[j]? = some e -> ∃ r,rows[j]? = some r/\EntV h lo hi r e
theorem BufV.keep {h h' : Nat->Option O} {lo hi hi' : Nat} {v:V} {b:List Entry} (o:BufV h lo hi v b) (h2:hi<=hi') (hh : ∀ k,lo<=k->k<hi->h' k=h k):BufV h' lo hi' v b:=by
 obtain ⟨rows,h1,h3,h4,h5⟩:=o
 refine ⟨rows, ?_,h3,h4,fun j e he => ?_⟩
 ·rcases h1 with h1 | ⟨k,a1,a2,a3,a4⟩
  ·exact .inl h1
  ·exact .inr ⟨k,a1,a2,by omega,by rw [hh k a2 a3]; exact a4⟩
 ·obtain ⟨r,hr,hE⟩:=h5 j e he
  exact ⟨r,hr,hE.keep (Nat.le_refl _) h2 fun k k1 k2 _=>hh k k1 k2⟩
theorem rows_trees {h:Nat->Option O} {d:Nat} : ∀ (rows:List (List V)) (b:List Entry),rows.length=b.length->(∀ (j:Nat) (e:Entry),b[j]? = some e -> ∃ r,rows[j]? = some r/\r.mapM (toT h d)=some (Entry.enc e)) ->
 rows.mapM (fun row=>row.mapM (toT h d))=some (b.map Entry.enc)
 | [],[],_,_=>rfl
 | [],_::_,hl,_=>by simp at hl
 | _::_,[],hl,_=>by simp at hl
 | r::rows,e::b,hl,hj=>by
  have ih:=rows_trees rows b (by simpa using hl) fun j e he=>hj (j+1) e he
  obtain ⟨r',hr,ht⟩:=hj 0 e rfl
  simp only [List.getElem?_cons_zero,Option.some.injEq] at hr
  subst hr
  rw [List.mapM_cons,ht,ih]; rfl
theorem BufV.tree {h:Nat->Option O} {lo hi:Nat} {v:V} {b:List Entry} (o:BufV h lo hi v b) (d:Nat):toT h (d+2) v=some (.sl (b.map Entry.enc)):=by
 obtain ⟨rows,h1,h3,h4,h5⟩:=o
 rcases h1 with ⟨rfl,rfl⟩ | ⟨k,rfl,a2,a3,a4⟩
 ·have:b=[]:=List.eq_nil_of_length_eq_zero (by simpa using h3.symm)
  subst this; rfl
 ·have htk:List.take rows.length rows=rows:=take_all rfl
  have hr:=rows_trees (h:=h) (d:=d+1) rows b h3 fun j e he=>by
   obtain ⟨r,hr,hE⟩:=h5 j e he
   exact ⟨r,hr,hE.tree d⟩
  simp only [toT,a4,rd,Nat.zero_add,Nat.le_refl,if_true,List.drop_zero,htk,Option.bind_eq_bind,Option.bind_some,hr]
theorem BufV.val {h:Nat->Option O} {lo hi:Nat} {v:V} {b:List Entry} (o:BufV h lo hi v b):Rg.valOf v=some v/\V.cells v=some [v]:=by
 obtain ⟨rows,⟨rfl,_⟩ | ⟨k,rfl,_⟩,_⟩:=o <;> exact ⟨rfl,rfl⟩
structure BufsV (h:Nat->Option O) (bd:Nat->Nat) (vs:List (List V)) (bs:List (List Entry)):Prop where
 len:vs.length=bs.length
 mono : ∀ q,q<bs.length->bd q<=bd (q+1)
 at_ : ∀ (q:Nat) (b:List Entry),bs[q]? = some b -> ∃ v,vs[q]? = some [v]/\BufV h (bd q) (bd (q+1)) v b
theorem BufsV.le {h:Nat->Option O} {bd:Nat->Nat} {vs:List (List V)} {bs:List (List Entry)} (o:BufsV h bd vs bs) {q r:Nat} (hq:q<=r) (hr:r<=bs.length):bd q<=bd r:=by
 induction r with
 | zero=>have:q=0:=by omega
         subst this; exact Nat.le_refl _
 | succ r ih =>
  rcases Nat.lt_or_ge q (r+1) with h | h
  ·exact Nat.le_trans (ih (by omega) (by omega)) (o.mono r (by omega))
  ·have:q=r+1:=by omega
   subst this; exact Nat.le_refl _
theorem BufsV.snoc {h h' : Nat->Option O} {bd:Nat->Nat} {vs:List (List V)} {bs:List (List Entry)} (o:BufsV h bd vs bs) {x:Nat} {v:V} {b:List Entry} (hx:bd bs.length<=x)
 (hh : ∀ k,bd 0<=k->k<bd bs.length->h' k=h k) (hv:BufV h' (bd bs.length) x v b):BufsV h' (fun q=>if q<=bs.length then bd q else x) (vs++[[v]]) (bs++[b]):=by
 refine ⟨by simp [o.len],fun q hq => ?_,fun q b' hb => ?_⟩
 ·rw [List.length_append,List.length_singleton] at hq
  rcases Nat.lt_or_ge q bs.length with h1 | h1
  ·rw [if_pos (by omega),if_pos (by omega)]; exact o.mono q h1
  ·have:q=bs.length:=by omega
   subst this
   rw [if_pos (Nat.le_refl _),if_neg (by omega)]; exact hx
 ·rcases Nat.lt_or_ge q bs.length with h1 | h1
  ·rw [List.getElem?_append_left h1] at hb
   obtain ⟨u,hu,hB⟩:=o.at_ q b' hb
   refine ⟨u,by rw [List.getElem?_append_left (by rw [o.len]; exact h1)]; exact hu, ?_⟩
   rw [if_pos (by omega),if_pos (by omega)]
   refine hB.keep (Nat.le_refl _) fun k k1 k2=>hh k ?_ ?_
   ·have:=o.le (Nat.zero_le q) (by omega); omega
   ·have:=o.le (show q+1<=bs.length by omega) (Nat.le_refl _); omega
  ·have hq:q=bs.length:=by
    have:=(List.getElem?_eq_some_iff.1 hb).1
    rw [List.length_append,List.length_singleton] at this; omega
   subst hq
   rw [List.getElem?_append_right (Nat.le_refl _),Nat.sub_self] at hb
   simp only [List.getElem?_cons_zero,Option.some.injEq] at hb
   subst hb
   refine ⟨v,by rw [List.getElem?_append_right (by rw [o.len]; exact Nat.le_refl _),o.len,Nat.sub_self]; rfl, ?_⟩
   rw [if_pos (Nat.le_refl _),if_neg (by omega)]; exact hv
def CfgV (h:Nat->Option O) (x:Nat) (vM vA:V) (kB:Nat) (c:Config):Prop :=
 ∃ x1 x2 bd vs,OwnI h 0 x1 vM (rowsI c.mem)/\OwnI h x1 x2 vA (rowsI c.at_)/\x1<=x2/\x2<=kB/\kB<bd 0/\h kB=some (.rows 1 vs false)/\BufsV h bd vs c.buf/\bd c.buf.length<=x
end Rg
end
section
namespace Rg
open Go
theorem cloneB_den (p:Prog) (hf:formedM p=true) (c:Config) (hc:IsB p c) (nx:Nat) :
 ∃ r h' n',DenR Γ G 202 [(.agg [.t (ints (c).mem), .t (ints (c).at_), .t (.sl ((c).buf.map (fun b=>[.sl (b.map Entry.enc)])))])] (fun _=>none) nx=some (r,h',n') /\ ∃ vM vA kB,r = .agg [vM,vA, .ms kB 0 c.buf.length]/\CfgV h' n' vM vA kB c:=by
 obtain ⟨⟨m1,m2,m3,m4⟩,_⟩:=limits_points (formed_limits hf).1
 have l1:=hc.lm
 have l2:=hc.la
 have l3:=hc.lb
 have e3:(c.buf.length:Int)<=4294967296:=by omega
 (refine denR_ofY Γ202 rfl ?_; dsimp only [f202])
 simp -dsimp -implicitDefEqProofs only [go_sem,seval]
 refine cloneK (by omega) ?_
 rintro vM hp1 ho1 hh1 hf1 ⟨hv1,hc1⟩
 simp -dsimp -implicitDefEqProofs only [go_sem,seval,hv1]
 refine cloneK (by omega) ?_
 rintro vA hp2 ho2 hh2 hf2 ⟨hv2,hc2⟩
 unfold V.cells at hc1 hc2
 simp -dsimp -implicitDefEqProofs only [go_sem,seval,hv1,hc1,hv2,hc2,e3,Int.le_refl]
 generalize hH0:hpC (hpC (fun _=>none) hp1) hp2=H0 at *
 have n1:c.buf.length=c.buf.length:=rfl
 refine loopYH 9007199250546864 c.buf.length (fun i f h x=>(f 22).v=vi i /\ ∃ bd vs,h (nx+2+9)=some (.rows 1 (vs++List.replicate (c.buf.length-i) [.t .nils]) false)/\BufsV h bd vs (c.buf.take i)/\bd 0=nx+2+10/\bd i<=x/\(∀ k,k<nx+2+9->h k=H0 k)) rfl ?_ ?_
 ·refine ⟨by simp -dsimp -implicitDefEqProofs only [go_sem,seval],fun _=>nx+2+10,[],by simp -dsimp -implicitDefEqProofs only [go_sem,seval,List.nil_append,Nat.sub_zero],⟨rfl,fun q hq=>Nat.le_refl _,fun q b hb=>by simp at hb⟩,rfl,by simp -dsimp -implicitDefEqProofs only [go_sem,seval]; omega, ?_⟩
  intro k hk
  have:k≠nx+2+9:=by omega
  simp -dsimp -implicitDefEqProofs only [go_sem,seval,this]
 rintro i f u Ho x bs hi ⟨h22,bd,vs,hB,hbs,hb0,hbi,hfr⟩
 have hw:=wrapS i (by omega)
 simp -dsimp -implicitDefEqProofs only [go_sem,seval,h22]
 refine csplit (fun h => ?_) (fun h => ?_) <;> (try rw [h]) <;> (try simp only [bools] at h) <;> (try simp -dsimp -implicitDefEqProofs only [go_sem,seval,h22])
 ·obtain ⟨b,hb,hbm⟩:=get_of ‹i<c.buf.length›
  obtain ⟨b1,b2,_⟩:=hc.buf i b hb
  simp -dsimp -implicitDefEqProofs only [go_sem,seval,h22,hb]
  have hrep:List.replicate (c.buf.length-i) [V.t T.nils]=[V.t T.nils]::List.replicate (c.buf.length-i-1) [V.t T.nils]:=by
   rw [<- List.replicate_succ]; congr 1; omega
  have hvl:vs.length=i:=by rw [hbs.len,List.length_take]; omega
  have hkb:nx+2+9<x:=by have:=hbs.le (q:=0) (r:=i) (by omega) (by rw [List.length_take]; omega); omega
  refine loopYH 4503599090499712 b.length (fun j f' h' x' => (f' 29).v=vi j /\ ∃ v,h' (nx+2+9)=some (.rows 1 (vs++[v]::List.replicate (c.buf.length-i-1) [.t .nils]) false)/\BufV h' x x' v (b.take j)/\x<=x' /\ (∀ k,k<x->k≠nx+2+9->h' k=Ho k)) rfl ?_ ?_
  ·refine ⟨by simp -dsimp -implicitDefEqProofs only [go_sem,seval], .t .nils,by simp -dsimp -implicitDefEqProofs only [go_sem,seval,hB,hrep],⟨[], .inl ⟨rfl,rfl⟩,by simp,by simp,by simp⟩,by simp -dsimp -implicitDefEqProofs only [go_sem,seval]; omega,fun k _ _=>rfl⟩
  rintro j f' u' Hi x' bs' hj ⟨h29,v,hB',hbv,hxx,hfr'⟩
  have hw' := wrapS j (by omega)
  simp -dsimp -implicitDefEqProofs only [go_sem,seval,h29]
  refine csplit (fun h => ?_) (fun h => ?_) <;> (try rw [h]) <;> (try simp only [bools] at h) <;> (try simp -dsimp -implicitDefEqProofs only [go_sem,seval,h29,h22])
  ·obtain ⟨e,he,hem⟩:=get_of ‹j<b.length›
   have hpr:=b2 e hem
   have hpl:=proper_len hpr
   have hgt:(vs++[v]::List.replicate (c.buf.length-i-1) [V.t T.nils])[i]? = some [v]:=by
    rw [List.getElem?_append_right (by omega),hvl,Nat.sub_self]; rfl
   obtain ⟨hvv,hvc⟩:=hbv.val
   have hi3:(i:Int)<(c.buf.length:Int):=by omega
   have hi0:(0:Int)<=(i:Int):=by omega
   simp -dsimp -implicitDefEqProofs only [go_sem,seval,h29,h22,he,Entry.enc,hB',hgt,hi3,hi0,hvv]
   refine cloneK (by omega) ?_
   rintro vc hpa hoa hha hfa ⟨hva,hca⟩
   simp -dsimp -implicitDefEqProofs only [go_sem,seval,hva]
   refine cloneK (by have:=hpr.len; omega) ?_
   rintro vv hpb hob hhb hfb ⟨hvb,hcb⟩
   unfold V.cells at hca hcb
   obtain ⟨rows,hro,hrl,hr2,hre⟩:=hbv
   have hG : ∀ k,k<x' -> updC (hpC (hpC Hi hpa) hpb) (x' + 1+4+15) (some (O.rows 2 [[vc,vv]] false)) k=Hi k:=fun k hk=>by
    rw [updC_at,if_neg (by omega),hhb k (by omega),hha k (by omega)]
   have hoG:OwnB (updC (hpC (hpC Hi hpa) hpb) (x' + 1+4+15) (some (O.rows 2 [[vc,vv]] false))) (x' + 1+4+16) v 2 rows:=by
    rcases hro with h | ⟨k,h1,h2,h3,h4⟩
    ·exact .inl h
    ·exact .inr ⟨k,h1,by omega,by rw [hG k h3]; exact h4⟩
   have hrs:=hoG.rowsS
   simp -dsimp -implicitDefEqProofs only [go_sem,seval,hvv,hva,hca,hvb,hcb,hrs]
   have hall:(rows.all fun r=>decide (r.length=2))=true:=by simpa using hr2
   refine putA_app1 hoG (Nat.le_refl _) (by have:=hbs.len; rw [hrl,List.length_take]; omega) (by decide) rfl hall ?_
   intro v2 hp hO hoffs hkeep
   rcases hO with ⟨_,he0⟩ | ⟨k2,rfl,hk2,hk2h⟩
   ·simp at he0
   have hk2q:x' + 1+4+16<=k2:=by
    rcases Nat.lt_or_ge k2 (x' + 1+4+16) with h1 | h1
    ·exact absurd rfl (hoffs k2 h1 0 _)
    ·exact h1
   have hoffv : ∀ k,(k<x\/x' <= k \/ ∀ rs fz,Hi k≠some (O.rows 2 rs fz))->offK v k:=by
    intro k hk
    rcases hro with ⟨rfl,_⟩ | ⟨k',rfl,h2,h3,h4⟩
    ·intro i n h0; cases h0
    ·refine offK_ms ?_ _ _
     rintro rfl
     rcases hk with hk | hk | hk
     ·omega
     ·omega
     ·exact hk _ _ h4
   have hkp : ∀ k,k<x' -> (k<x \/ ∀ rs fz,Hi k≠some (O.rows 2 rs fz))->hpC (updC (hpC (hpC Hi hpa) hpb) (x' + 1+4+15) (some (O.rows 2 [[vc,vv]] false))) hp k=Hi k:=by
    intro k hk hk'
    rw [hkeep k (by omega) (hoffv k (by rcases hk' with h | h; exact .inl h; exact .inr (.inr h))),hG k hk]
   have hB2:=hkp (nx+2+9) (by omega) (.inl (by omega))
   rw [hB'] at hB2
   have hset:(vs++[v]::List.replicate (c.buf.length-i-1) [V.t T.nils]).set i [V.ms k2 0 (rows++[[vc,vv]]).length]=vs++[V.ms k2 0 (rows++[[vc,vv]]).length]::List.replicate (c.buf.length-i-1) [V.t T.nils]:=by
    rw [List.set_append_right _ _ (by omega),hvl,Nat.sub_self]; rfl
   simp -dsimp -implicitDefEqProofs only [go_sem,seval,h29,h22,hB2,hgt,hi3,hi0,hset]
   have hkF : ∀ (o:Option O) k,k≠nx+2+9->updC (hpC (updC (hpC (hpC Hi hpa) hpb) (x' + 1+4+15) (some (O.rows 2 [[vc,vv]] false))) hp) (nx+2+9) o k=hpC (updC (hpC (hpC Hi hpa) hpb) (x' + 1+4+15) (some (O.rows 2 [[vc,vv]] false))) hp k:=fun o k hk=>by rw [updC_at,if_neg hk]
   have hbufs : ∀ (o:Option O) x'',k2<x'' -> BufV (updC (hpC (updC (hpC (hpC Hi hpa) hpb) (x' + 1+4+15) (some (O.rows 2 [[vc,vv]] false))) hp) (nx+2+9) o) x x'' (.ms k2 0 (rows++[[vc,vv]]).length) (b.take (j+1)):=by
    intro o x'' hx''
    refine ⟨rows++[[vc,vv]], .inr ⟨k2,rfl,by omega,hx'',by rw [hkF _ _ (by omega)]; exact hk2h⟩,by rw [List.length_append,hrl,List.length_take,List.length_take]; simp; omega, ?_, ?_⟩
    ·intro r hr
     rcases List.mem_append.1 hr with hr | hr
     ·exact hr2 r hr
     ·rw [List.mem_singleton] at hr; rw [hr]; rfl
    ·intro q e0 hq
     rw [take_succ_of he] at hq
     have hjl:(b.take j).length=j:=by rw [List.length_take]; omega
     rcases Nat.lt_or_ge q j with h1 | h1
     ·rw [List.getElem?_append_left (by omega)] at hq
      obtain ⟨r,hr,hE⟩:=hre q e0 hq
      refine ⟨r,by rw [List.getElem?_append_left (by rw [hrl]; omega)]; exact hr,hE.keep (Nat.le_refl _) (by omega) fun k a1 a2 a3 => ?_⟩
      rw [hkF _ _ (by omega),hkp k a2 (.inr a3)]
     ·have hqj:q=j:=by
       have:=(List.getElem?_eq_some_iff.1 hq).1
       rw [List.length_append,hjl,List.length_singleton] at this; omega
      subst hqj
      rw [List.getElem?_append_right (by omega),hjl,Nat.sub_self] at hq
      simp only [List.getElem?_cons_zero,Option.some.injEq] at hq
      subst hq
      refine ⟨[vc,vv],by rw [List.getElem?_append_right (by rw [hrl,hjl]; exact Nat.le_refl _),hrl,hjl,Nat.sub_self]; rfl, ?_⟩
      have hec:rowsI e.cells≠[]:=fun h0=>hpr.ne (List.eq_nil_of_length_eq_zero (by rw [<- rowsI_len,h0]; rfl))
      have hev:rowsI e.values≠[]:=fun h0=>hpr.ne (List.eq_nil_of_length_eq_zero (by rw [<- hpr.len, <- rowsI_len,h0]; rfl))
      rcases hoa with ⟨_,h0⟩ | ⟨kc,rfl,hkc,hkch⟩
      ·exact absurd h0 hec
      rcases hob with ⟨_,h0⟩ | ⟨kv,rfl,hkv,hkvh⟩
      ·exact absurd h0 hev
      have qc:kc=x' + 1+4+10:=by
       rcases Nat.decEq kc (x' + 1+4+10) with h1 | h1
       ·exact absurd rfl (hfa kc h1 0 _)
       ·exact h1
      have qv:kv=x' + 1+4+13:=by
       rcases Nat.decEq kv (x' + 1+4+13) with h1 | h1
       ·exact absurd rfl (hfb kv h1 0 _)
       ·exact h1
      refine ⟨kc,kv,by rw [rowsI_len,rowsI_len],by omega,by omega,by omega,by omega, ?_, ?_⟩
      ·rw [hkF _ _ (by omega),hkeep kc (by omega) (hoffv kc (.inr (.inl (by omega)))),updC_at,if_neg (by omega),hhb kc (by omega)]; exact hkch
      ·rw [hkF _ _ (by omega),hkeep kv (by omega) (hoffv kv (.inr (.inl (by omega)))),updC_at,if_neg (by omega)]; exact hkvh
   refine ⟨by omega,by simp -dsimp -implicitDefEqProofs only [go_sem,seval,hw'], .ms k2 0 (rows++[[vc,vv]]).length,by simp -dsimp -implicitDefEqProofs only [go_sem,seval], ?_,by simp -dsimp -implicitDefEqProofs only [go_sem,seval]; omega, ?_⟩
   ·simp -dsimp -implicitDefEqProofs only [go_sem,seval]
    exact hbufs _ _ (by omega)
   intro k hk hkB
   simp -dsimp -implicitDefEqProofs only [go_sem,seval,hkF _ k hkB]
   rw [hkp k (by omega) (.inl hk)]
   exact hfr' k hk hkB
  ·have:j=b.length:=by omega
   subst this
   rw [List.take_length] at hbv
   have htk:c.buf.take (i+1)=c.buf.take i++[b]:=take_succ_of hb
   have hln:(c.buf.take i).length=i:=by rw [List.length_take]; omega
   have hsn:=hbs.snoc (h' := Hi) (x:=x') (v:=v) (b:=b) (by rw [hln]; omega) (fun k k1 k2=>by rw [hln] at k2; exact hfr' k (by omega) (by omega)) (by
    rw [hln]
    obtain ⟨rows,hro,hrl,hr2,hre⟩:=hbv
    refine ⟨rows, ?_,hrl,hr2,fun q e0 hq => ?_⟩
    ·rcases hro with h | ⟨k,h1,h2,h3,h4⟩
     ·exact .inl h
     ·exact .inr ⟨k,h1,by omega,h3,h4⟩
    ·obtain ⟨r,hr,hE⟩:=hre q e0 hq
     exact ⟨r,hr,hE.keep hbi (Nat.le_refl _) fun _ _ _ _=>rfl⟩)
   rw [hln, <- htk] at hsn
   refine ⟨by omega,by simp -dsimp -implicitDefEqProofs only [go_sem,seval,hw,h22],_,vs++[[v]], ?_,hsn,by rw [if_pos (Nat.zero_le _)]; exact hb0,by rw [if_neg (by omega)]; simp -dsimp -implicitDefEqProofs only [go_sem,seval]; omega, ?_⟩
   ·simp -dsimp -implicitDefEqProofs only [go_sem,seval,hB']
    rw [List.append_assoc]; rfl
   ·intro k hk
    simp -dsimp -implicitDefEqProofs only [go_sem,seval,hfr' k (by omega) (by omega)]
    exact hfr k hk
 ·have hi2:i=c.buf.length:=by omega
  subst hi2
  rw [Nat.sub_self,List.replicate_zero,List.append_nil] at hB
  rw [List.take_length] at hbs
  have hM:OwnI Ho 0 (nx+5) vM (rowsI c.mem):=by
   rcases ho1 with h1 | ⟨k,h1,h2,h3⟩
   ·exact .inl h1
   ·exact .inr ⟨k,h1,by omega,by omega,by rw [hfr k (by omega),hh2 k (by omega)]; exact h3⟩
  have hA:OwnI Ho (nx+5) (nx+8) vA (rowsI c.at_):=by
   rcases ho2 with h1 | ⟨k,h1,h2,h3⟩
   ·exact .inl h1
   ·have hk:k=nx+2+5:=by
     rcases Nat.decEq k (nx+2+5) with h4 | h4
     ·subst h1; exact absurd rfl (hf2 k h4 0 _)
     ·exact h4
    exact .inr ⟨k,h1,by omega,by omega,by rw [hfr k (by omega)]; exact h3⟩
  refine ⟨vM,vA,nx+2+9,rfl,nx+5,nx+8,bd,vs,hM,hA,by omega,by omega,by omega,hB,hbs,by simp -dsimp -implicitDefEqProofs only [go_sem,seval]; omega⟩
theorem writeO_den (m:List Int) (e:Entry) (hl:e.values.length=e.cells.length) (hs:e.cells.length<2^40) (hc : ∀ n∈e.cells,0<=n/\n.toNat<m.length) (H:Nat->Option O) (nx k kc kv:Nat) (hk:H k=some (.rows 1 (rowsI m) false))
 (hkc:H kc=some (.rows 1 (rowsI e.cells) false)) (hkv:H kv=some (.rows 1 (rowsI e.values) false)) (h1:kc≠k) (h2:kv≠k) :
 ∃ r h' n',DenR Γ G 199 [.ms k 0 m.length, .agg [.ms kc 0 e.cells.length, .ms kv 0 e.values.length]] H nx=some (r,h',n')/\(r = .tup []/\h' k=some (.rows 1 (rowsI (putE m e)) false)/\(∀ j,j≠k->h' j=H j)/\nx<=n'):=by
 (refine denR_ofY Γ199 rfl ?_; dsimp only [f199])
 simp -dsimp -implicitDefEqProofs only [go_sem,seval,hkc]
 refine loopYH 8388144 e.cells.length (fun i f h x=>(f 9).v=vi i/\h k=some (.rows 1 (rowsI (putN m e i)) false)/\(∀ j,j≠k->h j=H j)/\nx<=x) rfl ⟨by simp -dsimp -implicitDefEqProofs only [go_sem,seval],by simp -dsimp -implicitDefEqProofs only [go_sem,seval,hk,putN,List.take_zero,List.foldl_nil],fun j _=>rfl,by simp -dsimp -implicitDefEqProofs only [go_sem,seval]; omega⟩ ?_
 rintro i f u H2 x bs hi ⟨h9,hh,hj,hx⟩
 have hw:=wrapS i (by omega)
 have hkc' := hj kc h1
 have hkv' := hj kv h2
 rw [hkc] at hkc'
 rw [hkv] at hkv'
 simp -dsimp -implicitDefEqProofs only [go_sem,seval,h9]
 refine csplit (fun h => ?_) (fun h => ?_) <;> (try rw [h]) <;> (try simp only [bools] at h) <;> (try simp -dsimp -implicitDefEqProofs only [go_sem,seval,h9])
 ·obtain ⟨c,hcc,hcm⟩:=get_of ‹i<e.cells.length›
  obtain ⟨v,hv,_⟩:=get_of (show i<e.values.length by omega)
  obtain ⟨c0,c1⟩:=hc c hcm
  have hsucc:=putN_succ (m:=m) hcc hv
  have hlen:=putN_len m e i
  have hgt:=rowsI_get (l:=putN m e i) (i:=c.toNat) (by omega)
  have hst:=rowsI_set (putN m e i) c.toNat v
  have c2:c<(m.length:Int):=by omega
  have i0:(0:Int)<=(i:Int):=by omega
  have j1:i<e.cells.length:=by omega
  have j2:i<e.values.length:=by omega
  have i1:(i:Int)<(e.cells.length:Int):=by omega
  have i2:(i:Int)<(e.values.length:Int):=by omega
  have hr1:(rowsI e.cells)[i]? = some [vi c]:=by simp [rowsI,hcc]
  have hr2:(rowsI e.values)[i]? = some [vi v]:=by simp [rowsI,hv]
  simp -dsimp -implicitDefEqProofs only [go_sem,seval,h9,hkc',hkv',i0,i1,i2,j1,j2,hr1,hr2,hh,c0,c2,hgt]
  refine ⟨by omega,by simp -dsimp -implicitDefEqProofs only [go_sem,seval,hw], ?_, ?_,by simp -dsimp -implicitDefEqProofs only [go_sem,seval]; omega⟩
  ·rw [hsucc]; simp -dsimp -implicitDefEqProofs only [go_sem,seval,hst]
  ·intro j hjk; simp -dsimp -implicitDefEqProofs only [go_sem,seval,hjk,hj]
 ·have:i=e.cells.length:=by omega
  subst this
  rw [putN_all hl] at hh
  refine ⟨rfl,hh,hj,by simp -dsimp -implicitDefEqProofs only [go_sem,seval]; omega⟩
theorem delete_den (A:List (List V)) (hA : ∀ r∈A,r.length=2) (hn:A.length<2^20) (i:Nat) (hi:i<A.length) (H:Nat->Option O) (nx k:Nat) (hk:H k=some (.rows 2 A false)) (hkn:k<nx) :
 ∃ r h' n',DenR Γ G 203 [.ms k 0 A.length,vi i,vi ((i+1:Nat):Int)] H nx=some (r,h',n') /\ ∃ k',r = .ms k' 0 (A.length-1)/\h' k' = some (.rows 2 (A.eraseIdx i++[[.t .nils, .t .nils]]) false)/\(∀ j,j<nx->j≠k->h' j=H j)/\(k' = k\/nx<=k'):=by
 have g1:(0:Int)<=(i:Int):=by omega
 have g2:(i:Int)<=((i+1:Nat):Int):=by omega
 have g3:((i+1:Nat):Int)<=(A.length:Int):=by omega
 have g4:(0:Int)<=((i+1:Nat):Int):=by omega
 have g5:(i:Int)<=(A.length:Int):=by omega
 have g6 : ¬ (i:Int)=((i+1:Nat):Int):=by omega
 have g7:(A.length:Int)<=(A.length:Int):=Int.le_refl _
 have g8 : ¬ ((i+1:Nat):Int)=0:=by omega
 have s0:((i:Int)-0).toNat=i:=by omega
 have s1:((A.length:Int)-((i+1:Nat):Int)).toNat=A.length-(i+1):=by omega
 have s2:i<=A.length:=by omega
 have s3:rowsS H (.ms k (i+1) (A.length-(i+1)))=some (A.drop (i+1)):=by
  simp only [rowsS,hk,rd]
  rw [if_pos (by omega),List.take_of_length_le (by simp)]
 have s4:(A.take i).length=i:=by rw [List.length_take]; omega
 have hall : ∀ l:List (List V),(∀ r∈l,r∈A)->(l.all fun r=>decide (r.length=2))=true:=fun l hl=>List.all_eq_true.2 fun r hr=>by simpa using hA r (hl r hr)
 (refine denR_ofY Γ203 rfl ?_; dsimp only [f203])
 simp -dsimp -implicitDefEqProofs only [go_sem,seval,hk,g1,g2,g3,g4,g5,g6,g7,g8,false_and,and_false,if_false,s0,s1,s2,s3]
 unfold appS
 rw [if_pos ⟨⟨by rw [s4,List.length_drop]; omega,by decide⟩,hall _ fun r hr=>List.mem_of_mem_drop hr,hall _ fun r hr=>List.mem_of_mem_take hr⟩]
 have hne:(A.length:Int)-1=((A.length-1:Nat):Int):=by omega
 by_cases hlast:i+1=A.length
 ·have hd:A.drop (i+1)=[]:=List.drop_of_length_le (by omega)
  rw [hd]
  simp only [List.isEmpty_nil,if_true,putA_some,hpC_nil]
  have q2:((A.length:Int)-(i:Int)).toNat=1:=by omega
  have q3 : ¬ (A.length:Int)<=(i:Int):=by omega
  have q4:sliceX H 2 (i:Int) (A.length:Int) (.ms k 0 i)=some (.ms k i 1):=by
   simp only [sliceX,hk]
   rw [if_pos ⟨trivial,by omega,by omega,by omega⟩]
   simp only [Int.toNat_natCast,Nat.zero_add,q2]
  have q5:A.take i++[[V.t T.nils,V.t T.nils]]++A.drop (i+1)=A.eraseIdx i++[[.t .nils, .t .nils]]:=by
   rw [List.eraseIdx_eq_take_drop_succ,hd]; simp
  have q6:i+1<=A.length:=hi
  simp -dsimp -implicitDefEqProofs only [go_sem,seval,hk,g1,q2,q3,q4,false_and,and_false,if_false,List.replicate_one,q5,q6]
  refine ⟨k,by rw [show A.length-1=i by omega]; rfl,by simp [hpC_cons,hpC_nil,updC_at],fun j _ hj=>by simp [hpC_cons,hpC_nil,updC_at,hj], .inl rfl⟩
 ·have hd:(A.drop (i+1)).isEmpty=false:=by
   cases hdd:A.drop (i+1) with
   | nil=>have:=congrArg List.length hdd; rw [List.length_drop] at this; simp at this; omega
   | cons _ _=>rfl
  rw [hd]
  simp only [Bool.false_eq_true,if_false,hk,and_self,if_true,putA_some]
  have hm:(A.take i).length+(A.drop (i+1)).length=A.length-1:=by rw [s4,List.length_drop]; omega
  have q3 : ¬ (A.length:Int)<=((A.length-1:Nat):Int):=by omega
  have hR:appRows (A.take i) (A.drop (i+1)) A=A.eraseIdx i++A.drop (A.length-1):=by
   unfold appRows
   rw [hm,if_neg (by omega),List.eraseIdx_eq_take_drop_succ]
  have hRl:(A.eraseIdx i++A.drop (A.length-1)).length=A.length:=by
   rw [List.length_append,List.length_eraseIdx_of_lt hi,List.length_drop]; omega
  rw [hm,hR]
  have q4 : ∀ (h:Nat->Option O) q,sliceX (updC h q (some (O.rows 2 (A.eraseIdx i++A.drop (A.length-1)) false))) 2 ((A.length-1:Nat):Int) (A.length:Int) (.ms q 0 (A.length-1))=some (.ms q (A.length-1) 1):=by
   intro h q
   simp only [sliceX,updC_at,if_true]
   rw [if_pos ⟨trivial,by omega,by omega,by rw [hRl]; omega⟩]
   simp only [Int.toNat_natCast,Nat.zero_add]
   congr 1; congr 1; omega
  have e1:(A.eraseIdx i).length=A.length-1:=List.length_eraseIdx_of_lt hi
  have q5:(A.eraseIdx i++A.drop (A.length-1)).take (A.length-1)++[[V.t T.nils,V.t T.nils]]++(A.eraseIdx i++A.drop (A.length-1)).drop (A.length-1+1)=A.eraseIdx i++[[.t .nils, .t .nils]]:=by
   rw [List.take_append_of_le_length (by omega),List.take_of_length_le (by omega),List.drop_of_length_le (by rw [hRl]; omega),List.append_nil]
  have q6:A.length-1+1<=(A.eraseIdx i++A.drop (A.length-1)).length:=by rw [hRl]; omega
  simp -dsimp -implicitDefEqProofs only [go_sem,seval,q3,q4,false_and,and_false,if_false,List.replicate_one,q5,q6]
  refine ⟨_,rfl,by simp [hpC_cons,hpC_nil,updC_at],fun j hj hne => ?_, .inr (by omega)⟩
  have hjn:j≠nx+1+6+3+3+6:=by omega
  rw [hpC_cons,hpC_nil,hpC_cons,hpC_cons,hpC_nil,updC_at,if_neg hjn,updC_at,if_neg hjn,updC_at,if_neg hne]
theorem bufs_trees {h:Nat->Option O} {d:Nat} : ∀ (vs:List (List V)) (bs:List (List Entry)),vs.length=bs.length->(∀ (j:Nat) (b:List Entry),bs[j]? = some b -> ∃ v,vs[j]? = some [v]/\toT h d v=some (.sl (b.map Entry.enc))) ->
 vs.mapM (fun row=>row.mapM (toT h d))=some (bs.map fun b=>[.sl (b.map Entry.enc)])
 | [],[],_,_=>rfl
 | [],_::_,hl,_=>by simp at hl
 | _::_,[],hl,_=>by simp at hl
 | r::vs,b::bs,hl,hj=>by
  have ih:=bufs_trees vs bs (by simpa using hl) fun j e he=>hj (j+1) e he
  obtain ⟨v,hr,ht⟩:=hj 0 b rfl
  simp only [List.getElem?_cons_zero,Option.some.injEq] at hr
  subst hr
  rw [List.mapM_cons,List.mapM_cons,ht,List.mapM_nil,ih]; rfl
theorem commit_den (p:Prog) (hf:formedM p=true) (k:Int) (c:Config) (hc:IsB p c) (t:Nat) (ht:t<p.threads.length) (i:Nat) (e:Entry) (he:(bufM c t)[i]? = some e) :
 Den Γ G 191 [stV p k c,vi t,vi i]=some (.agg [.t (ints (commitB c t i).mem), .t (ints (commitB c t i).at_), .t (.sl ((commitB c t i).buf.map (fun b=>[.sl (b.map Entry.enc)])))]):=by
 obtain ⟨⟨m1,m2,m3,m4⟩,_⟩:=limits_points (formed_limits hf).1
 have l1:=hc.lm
 have l2:=hc.la
 have l3:=hc.lb
 have hget:=bufM_at (c:=c) (t:=t) (by omega)
 obtain ⟨b1,b2,_⟩:=hc.buf t _ hget
 have hil:=(List.getElem?_eq_some_iff.1 he).1
 have hpr:=b2 e (List.mem_of_getElem? he)
 have hpl:=proper_len hpr
 unfold stV
 (refine den_ofY Γ191 rfl ?_; dsimp only [f191])
 simp -dsimp -implicitDefEqProofs only [go_sem,seval]
 refine rawK_of (cloneB_den p hf c hc _) ?_
 rintro r h' n' ⟨vM,vA,kB,rfl,x1,x2,bd,vs,hM,hA,hk0,hk1,hk2,hB,hbs,hbn⟩
 obtain ⟨hva,hca⟩:=hA.val
 have hAt:=hA
 obtain ⟨v,hv,rows,hro,hrl,hr2,hre⟩:=hbs.at_ t _ hget
 have h0t:=hbs.le (q:=0) (r:=t) (by omega) (by omega)
 have h1t:=hbs.le (q:=t+1) (r:=c.buf.length) (by omega) (Nat.le_refl _)
 obtain ⟨r,hr,kc,kv,rfl,a1,a2,a3,a4,a5,a6⟩:=hre i e he
 rcases hro with ⟨_,h0⟩ | ⟨kb,rfl,b3,b4,b5⟩
 ·exfalso; rw [h0] at hr; simp at hr
 rcases hM with ⟨_,h0⟩ | ⟨kM,rfl,m5,m6,m7⟩
 ·exfalso
  have h1:=congrArg List.length h0
  rw [rowsI_len] at h1
  have:=proper_lt hpr (head_mem hpr)
  simp at h1
  rw [h1] at l1; simp at l1; omega
 unfold V.cells at hca
 have i0:(0:Int)<=(i:Int):=by omega
 have i1:(i:Int)<(rows.length:Int):=by omega
 have t0:(0:Int)<=(t:Int):=by omega
 have t1:(t:Int)<(c.buf.length:Int):=by omega
 have hw:=wrapS i (by omega)
 simp -dsimp -implicitDefEqProofs only [go_sem,seval,hva,hca,hB,hv,t0,t1,i0,i1,b5,hr]
 rw [rowsI_len]
 refine rawK_of (writeO_den c.mem e hpr.len (by omega) (fun n hn=>by have:=proper_lt hpr hn; omega) _ _ kM kc kv (by simp -dsimp -implicitDefEqProofs only [go_sem,seval,m7]) (by simp -dsimp -implicitDefEqProofs only [go_sem,seval,a5]) (by simp -dsimp -implicitDefEqProofs only [go_sem,seval,a6]) (by omega) (by omega)) ?_
 rintro r2 h2 n2 ⟨rfl,g1,g2,g3⟩
 have hB2:=g2 kB (by omega)
 rw [hB] at hB2
 have b52:=g2 kb (by omega)
 rw [b5] at b52
 simp -dsimp -implicitDefEqProofs only [go_sem,seval,hva,hca,hB2,hv,t0,t1,i0,i1,b52,hw]
 refine rawK_of (delete_den rows hr2 (by omega) i (by omega) h2 _ kb b52 (by omega)) ?_
 rintro r3 h3 n3 ⟨kd,rfl,d1,d2,d3⟩
 have hB3:=d2 kB (by omega) (by omega)
 rw [hB2] at hB3
 have hkd:kd≠kB:=by omega
 have hvt:vs[t]? = some [.ms kb 0 rows.length]:=hv
 simp -dsimp -implicitDefEqProofs only [go_sem,seval,hva,hca,hB3,hv,t0,t1]
 have hC:commitB c t i=⟨putE c.mem e,c.at_,c.buf.set t ((bufM c t).eraseIdx i)⟩:=by simp only [commitB,he]
 have hsame : ∀ (o:Option O) q,q<n' -> q≠kB->q≠kM->q≠kb->updC h3 kB o q=h' q:=fun o q q1 q2 q3 q4=>by
  rw [updC_at,if_neg q2,d2 q (by omega) q4,g2 q q3]
 have f0 : ¬ kM=kB:=by omega
 have f1:h3 kM=some (.rows 1 (rowsI (putE c.mem e)) false):=by rw [d2 kM (by omega) (by omega)]; exact g1
 have f2:(rowsI (putE c.mem e)).length=c.mem.length:=by rw [rowsI_len,putE_len]
 have f3:List.take c.mem.length (rowsI (putE c.mem e))=rowsI (putE c.mem e):=take_all f2.symm
 have f4 : ∀ o:Option O,toT (updC h3 kB o) 1000 vA=some (ints c.at_):=fun o =>
  (hA.keep fun q q1 q2=>hsame o q (by omega) (by omega) (by omega) (by omega)).tree 999
 have f5 : ∀ v,(vs.set t [v]).length=c.buf.length:=fun v=>by rw [List.length_set]; exact hbs.len
 have f6 : ∀ v,List.take c.buf.length (vs.set t [v])=vs.set t [v]:=fun v=>take_all (f5 v).symm
 have f7 : ∀ o:Option O,(vs.set t [V.ms kd 0 (rows.length-1)]).mapM (fun row=>row.mapM (toT (updC h3 kB o) 999))=some ((c.buf.set t ((bufM c t).eraseIdx i)).map fun b=>[.sl (b.map Entry.enc)]):=by
  intro o
  refine bufs_trees _ _ (by rw [f5,List.length_set]) fun j b hb => ?_
  rw [List.getElem?_set] at hb
  by_cases hj:t=j
  ·subst hj
   rw [if_pos rfl,if_pos (by omega)] at hb
   simp only [Option.some.injEq] at hb
   subst hb
   refine ⟨_,by rw [List.getElem?_set,if_pos rfl,if_pos (by have:=hbs.len; omega)], ?_⟩
   have hd:updC h3 kB o kd=some (.rows 2 (rows.eraseIdx i++[[.t .nils, .t .nils]]) false):=by rw [updC_at,if_neg hkd]; exact d1
   have e1:(rows.eraseIdx i).length=rows.length-1:=List.length_eraseIdx_of_lt (by omega)
   have e2:rows.length-1<=(rows.eraseIdx i++[[V.t T.nils,V.t T.nils]]).length:=by rw [List.length_append,e1]; omega
   have e3:List.take (rows.length-1) (rows.eraseIdx i++[[V.t T.nils,V.t T.nils]])=rows.eraseIdx i:=by
    rw [List.take_append_of_le_length (by omega),List.take_of_length_le (by omega)]
   have e4:=rows_trees (h:=updC h3 kB o) (d:=998) (rows.eraseIdx i) ((bufM c t).eraseIdx i) (by rw [e1,List.length_eraseIdx_of_lt hil,hrl]) fun q e0 hq=>by
    rw [List.getElem?_eraseIdx] at hq ⊢
    have key : ∀ q',(bufM c t)[q']? = some e0 -> ∃ r:List V,rows[q']? = some r/\r.mapM (toT (updC h3 kB o) 998)=some (Entry.enc e0):=fun q' hq' => by
     obtain ⟨r,hr,hE⟩:=hre q' e0 hq'
     exact ⟨r,hr,(hE.keep (Nat.le_refl _) (Nat.le_refl _) fun z z1 z2 z3=>hsame o z (by omega) (by omega) (by omega) (by rintro rfl; exact z3 _ _ b5)).tree 997⟩
    split at hq
    ·rename_i h1; rw [if_pos h1]; exact key _ hq
    ·rename_i h1; rw [if_neg h1]; exact key _ hq
   simp only [toT,hd,rd,Nat.zero_add,e2,if_true,List.drop_zero,e3,Option.bind_eq_bind,Option.bind_some,e4]
  ·rw [if_neg hj] at hb
   obtain ⟨u,hu,hB4⟩:=hbs.at_ j b hb
   have hjl:=(List.getElem?_eq_some_iff.1 hb).1
   refine ⟨u,by rw [List.getElem?_set,if_neg hj]; exact hu, ?_⟩
   refine (hB4.keep (Nat.le_refl _) fun q q1 q2 => ?_).tree 997
   have u1:=hbs.le (q:=0) (r:=j) (by omega) (by omega)
   have u2:=hbs.le (q:=j+1) (r:=c.buf.length) (by omega) (Nat.le_refl _)
   refine hsame o q (by omega) (by omega) (by omega) ?_
   rintro rfl
   rcases Nat.lt_or_ge j t with h1 | h1
   ·have:=hbs.le (q:=j+1) (r:=t) (by omega) (by omega); omega
   ·have:=hbs.le (q:=t+1) (r:=j) (by omega) (by omega); omega
 rw [hC]
 simp -dsimp -implicitDefEqProofs only [go_sem,seval,f0,f1,f2,f3,f4,f5,f6,f7,rowsI_toT,Nat.le_refl]
theorem set_small {p:Prog} {set:List Assign} (h:SetOk p set):set.length<=p.cells.length:=by
 have h1:=nodup_len p.cells.length (set.map Assign.cell) (by
  rw [List.nodup_iff_pairwise_ne,List.pairwise_iff_getElem]
  intro i j hi hj hij he
  simp only [List.length_map] at hi hj
  simp only [List.getElem_map] at he
  have:=h.dif i j _ _ (List.getElem?_eq_getElem hi) (List.getElem?_eq_getElem hj) he
  omega) (fun x hx=>by
  obtain ⟨a,ha,rfl⟩:=List.mem_map.1 hx
  have:=(h.rng a ha).1
  simp only [inR,decide_eq_true_eq] at this
  exact this)
 simpa using h1
theorem execO_den (p:Prog) (hf:formedM p=true) (k:Int) (c:Config) (hc:IsB p c) (t:Nat) (x:Thread) (hx:p.threads[t]? = some x) (i:Nat) (s:Step) (hs:x.steps[i]? = some s) (y:Choice) (hy:y=⟨t,i,0⟩) (hk3:s.kind≠3) :
 Den Γ G 192 [stV p k c,(.agg [.t (ti (y).thread), .t (ti (y).step), .t (ti (y).cell)]), .t (ints (viewM c t))]=some (.agg [.t (ints (execB p c t s).mem), .t (ints (execB p c t s).at_), .t (.sl ((execB p c t s).buf.map (fun b=>[.sl (b.map Entry.enc)])))]):=by
 subst hy
 obtain ⟨⟨m1,m2,m3,m4⟩,_⟩:=limits_points (formed_limits hf).1
 have l1:=hc.lm
 have l2:=hc.la
 have l3:=hc.lb
 have hok:=formed_step hf hx hs
 have ht:t<p.threads.length:=(List.getElem?_eq_some_iff.1 hx).1
 have hset:=set_small hok.set
 have hcm : ∀ a∈s.set,0<=a.cell/\a.cell<c.mem.length:=fun a ha=>by
  have:=(hok.rng.2 a ha).1
  simp only [inR,decide_eq_true_eq] at this; omega
 unfold stV
 (refine den_ofY Γ192 rfl ?_; dsimp only [f192])
 simp -dsimp -implicitDefEqProofs only [go_sem,seval]
 refine rawK_of (cloneB_den p hf c hc _) ?_
 rintro r h' n' ⟨vM,vA,kB,rfl,x1,x2,bd,vs,hM,hA,hk0,hk1,hk2,hB,hbs,hbn⟩
 obtain ⟨hva,hca⟩:=hM.val
 rcases hA with ⟨_,h0⟩ | ⟨kA,rfl,a1,a2,a3⟩
 ·exfalso
  have h1:=congrArg List.length h0
  rw [rowsI_len] at h1
  simp at h1
  rw [h1] at l2; simp at l2; omega
 unfold V.cells at hca
 simp -dsimp -implicitDefEqProofs only [go_sem,seval,hva,hca,hx,hs]
 refine loopYH 18889465931476433377792 s.set.length (fun j f h z=>(f 31).v=vi j/\OwnI h 0 x1 vM (rowsI (writeM c.mem (viewM c t) (s.set.take j)))/\(∀ q,x1<=q->h q=h' q)/\n' <= z) rfl
  ⟨by simp -dsimp -implicitDefEqProofs only [go_sem,seval],hM,fun _ _=>rfl,by simp -dsimp -implicitDefEqProofs only [go_sem,seval]; omega⟩ ?_
 rintro j f u H z bs hj ⟨h31,hmj,hfr,hz⟩
 have hw:=wrapS j (by omega)
 simp -dsimp -implicitDefEqProofs only [go_sem,seval,h31]
 refine csplit (fun h => ?_) (fun h => ?_) <;> (try rw [h]) <;> (try simp only [bools] at h) <;> (try simp -dsimp -implicitDefEqProofs only [go_sem,seval,h31])
 ·obtain ⟨a,ha,ham⟩:=get_of ‹j<s.set.length›
  obtain ⟨c0,c1⟩:=hcm a ham
  have hev:=evalP_den a.to (viewM c t) (viewM c t)
  have hlen:(writeM c.mem (viewM c t) (s.set.take j)).length=c.mem.length:=write_len (viewM c t) _ c.mem
  rcases hmj with ⟨_,h0⟩ | ⟨kM,rfl,m5,m6,m7⟩
  ·exfalso
   have h1:=congrArg List.length h0
   rw [rowsI_len,hlen] at h1
   simp at h1
   rw [h1] at c1; simp at c1; omega
  have hgt:=rowsI_get (l:=writeM c.mem (viewM c t) (s.set.take j)) (i:=a.cell.toNat) (by omega)
  have hst:=rowsI_set (writeM c.mem (viewM c t) (s.set.take j)) a.cell.toNat (a.to.eval (viewM c t) (viewM c t))
  rw [<- write_take ha] at hst
  have hl2:(rowsI (writeM c.mem (viewM c t) (s.set.take j))).length=c.mem.length:=by rw [rowsI_len,hlen]
  have hl3:(rowsI (writeM c.mem (viewM c t) (s.set.take (j+1)))).length=c.mem.length:=by rw [rowsI_len,write_len]
  simp -dsimp -implicitDefEqProofs only [go_sem,seval,h31,ha,hev,hk3,hl2,c0,c1,m7,hgt,hst]
  refine ⟨by omega,by simp -dsimp -implicitDefEqProofs only [go_sem,seval,hw], .inr ⟨kM,by rw [hl3,hl2],m5,m6,by simp -dsimp -implicitDefEqProofs only [go_sem,seval]⟩, ?_,by simp -dsimp -implicitDefEqProofs only [go_sem,seval]; omega⟩
  intro q hq
  have hqm:q≠kM:=by omega
  simp -dsimp -implicitDefEqProofs only [go_sem,seval,hqm]
  exact hfr q hq
 ·have:j=s.set.length:=by omega
  subst this
  rw [List.take_length] at hmj
  have g1:H kA=some (.rows 1 (rowsI c.at_) false):=by rw [hfr kA a1]; exact a3
  have g2:H kB=some (.rows 1 vs false):=by rw [hfr kB (by omega)]; exact hB
  have hgt:=rowsI_get (l:=c.at_) (i:=t) (by omega)
  have hst:=rowsI_set c.at_ t s.to
  have hlt:(t:Int)<(c.at_.length:Int):=by omega
  have t0:(0:Int)<=(t:Int):=by omega
  have hAB:kA≠kB:=by omega
  have hBA:kB≠kA:=by omega
  have fM : ∀ o,toT (updC H kA o) 1000 vM=some (ints (writeM c.mem (viewM c t) s.set)):=fun o =>
   (hmj.keep fun q q1 q2=>by rw [updC_at,if_neg (by omega)]).tree 999
  have f5:vs.length=c.buf.length:=hbs.len
  have f6:List.take c.buf.length vs=vs:=take_all f5.symm
  have f7 : ∀ o:Option O,vs.mapM (fun row=>row.mapM (toT (updC H kA o) 999))=some (c.buf.map fun b=>[.sl (b.map Entry.enc)]):=fun o =>
   bufs_trees _ _ f5 fun q b hq=>by
    obtain ⟨u,hu,hBq⟩:=hbs.at_ q b hq
    have hql:=(List.getElem?_eq_some_iff.1 hq).1
    have u1:=hbs.le (q:=0) (r:=q) (by omega) (by omega)
    exact ⟨u,hu,(hBq.keep (Nat.le_refl _) fun z z1 z2=>by rw [updC_at,if_neg (by omega),hfr z (by omega)]).tree 997⟩
  simp -dsimp -implicitDefEqProofs only [go_sem,seval,hk3,hva,hca,g1,hgt,hlt,t0,hst,rowsI_len]
  by_cases hk:s.kind=6
  ·obtain ⟨hr,_⟩:=hok.tgt (.inl hk)
   simp only [inR,decide_eq_true_eq] at hr
   have q1:s.target<(c.at_.length:Int):=by omega
   have q2:=hr.1
   have hgt2:=rowsI_get (l:=c.at_.set t s.to) (i:=s.target.toNat) (by simp; omega)
   have hst2:=rowsI_set (c.at_.set t s.to) s.target.toNat 0
   have f2:(rowsI ((c.at_.set t s.to).set s.target.toNat 0)).length=c.at_.length:=by rw [rowsI_len]; simp
   have f3:List.take c.at_.length (rowsI ((c.at_.set t s.to).set s.target.toNat 0))=rowsI ((c.at_.set t s.to).set s.target.toNat 0):=take_all f2.symm
   have hE:execB p c t s=⟨writeM c.mem (viewM c t) s.set,(c.at_.set t s.to).set s.target.toNat 0,c.buf⟩:=by simp only [execB,if_neg hk3,if_pos hk]
   rw [hE]
   simp -dsimp -implicitDefEqProofs only [go_sem,seval,hk,hva,hca,q1,q2,hgt2,hst2,rowsI_len,List.length_set,hBA,g2,updC_same,fM,f3,f5,f6,f7,rowsI_toT,Nat.le_refl]
  ·have f2:(rowsI (c.at_.set t s.to)).length=c.at_.length:=by rw [rowsI_len]; simp
   have f3:List.take c.at_.length (rowsI (c.at_.set t s.to))=rowsI (c.at_.set t s.to):=take_all f2.symm
   have hE:execB p c t s=⟨writeM c.mem (viewM c t) s.set,c.at_.set t s.to,c.buf⟩:=by simp only [execB,if_neg hk3,if_neg hk]
   rw [hE]
   simp -dsimp -implicitDefEqProofs only [go_sem,seval,hk,hva,hca,rowsI_len,List.length_set,hBA,g2,fM,f3,f5,f6,f7,rowsI_toT,Nat.le_refl]
end Rg
end
