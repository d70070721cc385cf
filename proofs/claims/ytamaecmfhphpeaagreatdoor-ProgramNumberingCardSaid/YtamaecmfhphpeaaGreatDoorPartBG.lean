/- Part of the proof of the laws of the package relyguardlaw07: an abstract machine for the program's functions, what they compute, and that the machine is the program's. No condition. (H36b H36c) -/
import Derived.Test.YtamaecmfhphpeaaGreatDoorPartBF
set_option linter.unusedSimpArgs false
set_option linter.unusedVariables false
section
set_option maxRecDepth 100000
namespace Rg
open Go
def rowsM (to:List Int) (l:List Expr):List (List V):=(l.map fun k=>(k.mv to).enc).map (·.map V.t)
theorem rowsM_len (to:List Int) (l:List Expr):(rowsM to l).length=l.length:=by simp [rowsM]
theorem rowsM_all (to:List Int) (l:List Expr):((rowsM to l).all fun r=>decide (r.length=4))=true:=by simp [rowsM,Expr.enc_eq]
theorem rowsM_succ (to:List Int) {l:List Expr} {i:Nat} {x:Expr} (h:l[i]? = some x):rowsM to (l.take (i+1))=rowsM to (l.take i)++[(x.mv to).enc.map V.t]:=by
 unfold rowsM; rw [take_succ_of h]; simp
theorem rowsM_norm (to:List Int) (l:List Expr) : ∀ e∈l.map (fun k=>(k.mv to).enc), ∀ t∈e,T.norm t=t:=by
 intro e he t ht
 obtain ⟨x,_,rfl⟩:=List.mem_map.1 he
 simp only [Expr.enc_eq,List.mem_cons,List.not_mem_nil,or_false] at ht
 rcases ht with rfl | rfl | rfl | rfl <;> rfl
theorem ownB_cells {h:Nat->Option O} {x:Nat} {v:V} {sz:Nat} {rows:List (List V)} (o:OwnB h x v sz rows):V.cells v=some [v]:=by
 rcases o with ⟨rfl,_⟩ | ⟨k,rfl,_,_⟩ <;> rfl
theorem ownB_rows {h:Nat->Option O} {x:Nat} {v:V} {sz:Nat} {a b:List (List V)} (o:OwnB h x v sz a) (e:a=b):OwnB h x v sz b:=e ▸ o
theorem kidsEnc (to:List Int) (e:Expr):T.sl (e.kids.map fun k=>[ti (k.mv to).op,ti (k.mv to).w,ti (k.mv to).n, .sl ((k.mv to).kids.map Expr.enc)]) = .sl ((e.mv to).kids.map Expr.enc):=by
 rw [Expr.mv_kids,List.map_map]
 congr 1
 exact List.map_congr_left fun k _=>(Expr.enc_eq _).symm
theorem moved_den (to:List Int) (e:Expr):e.size<2^31->Den Γ G 256 [(.agg [.t (ti (e).op), .t (ti (e).w), .t (ti (e).n), .t (.sl ((e).kids.map (Expr.enc)))]), .t (ints to)]=some (.agg [.t (ti (e.mv to).op), .t (ti (e.mv to).w), .t (ti (e.mv to).n), .t (.sl ((e.mv to).kids.map (Expr.enc)))]):=by
 induction e using Expr.ind with
 | _ e ih =>
 intro hs
 (refine den_ofY Γ256 rfl ?_; dsimp only [f256])
 have hkl:e.kids.length<2^31:=by have:=Expr.len_le_size e.kids; have:=Expr.size_eq e; omega
 have hN1:(e.op=2\/e.op=3)/\(0<=e.n/\e.n<to.length) -> ∃ z,to[e.n.toNat]? = some z/\(e.mv to).n=z:=fun ⟨h1,h2⟩=>by
  obtain ⟨z,hz,_⟩:=get_of (show e.n.toNat<to.length by omega)
  refine ⟨z,hz, ?_⟩
  rw [Expr.mv_n,if_pos h1,tau,if_pos h2,List.getD_eq_getElem?_getD,hz]; rfl
 have hl0:e.op=2->((e.op=2)=True/\(e.op=3)=False):=fun h=>⟨eq_true h,eq_false (by omega)⟩
 have hl1:e.op=3->((e.op=2)=False/\(e.op=3)=True):=fun h=>⟨eq_false (by omega),eq_true h⟩
 have hout : ¬ (e.op=2\/e.op=3) \/ ¬ (0<=e.n/\e.n<to.length)->(e.mv to).n=e.n:=fun h=>by
  rw [Expr.mv_n]
  split
  ·rename_i h1
   rw [tau,if_neg (h.resolve_left fun hh=>hh h1)]
  ·rfl
 have hsplit:((e.op=2/\0<=e.n/\e.n<to.length)\/(e.op=3/\0<=e.n/\e.n<to.length))\/((e.op=2 /\ ¬ 0<=e.n)\/(e.op=3 /\ ¬ 0<=e.n))\/((e.op=2/\0<=e.n /\ ¬ e.n<to.length)\/(e.op=3/\0<=e.n /\ ¬ e.n<to.length))\/(¬ e.op=2 /\ ¬ e.op=3):=by omega
 rcases hsplit with (⟨ho,g0,g1⟩ | ⟨ho,g0,g1⟩) | (⟨ho,g0⟩ | ⟨ho,g0⟩) | (⟨ho,g0,g1⟩ | ⟨ho,g0,g1⟩) | ⟨ho,ho2⟩
 ·obtain ⟨z,hz,hmv⟩:=hN1 ⟨.inl ho,g0,g1⟩
  obtain ⟨N,hN⟩ : ∃ N,z=N:=⟨_,rfl⟩
  rw [hN] at hmv hz
  obtain ⟨o2,o3⟩:=hl0 ho
  simp -dsimp -implicitDefEqProofs only [go_sem,seval,o2,o3,decide_true,g0,g1,hz]
  refine loopYH 9007130535264324 e.kids.length (fun i f h x=>(f 6).v=vi i/\(f 2).v = .lb /\ ∃ vk,(f 2).box=some [.t (ti e.op), .t (ti e.w), .t (ti N),vk]/\OwnB h x vk 4 (rowsM to (e.kids.take i))) rfl ⟨by simp -dsimp -implicitDefEqProofs only [go_sem,seval],by simp -dsimp -implicitDefEqProofs only [go_sem,seval], .t .nils,by simp -dsimp -implicitDefEqProofs only [go_sem,seval], .inl ⟨rfl,rfl⟩⟩ ?_
  rintro i f u H q bq hi ⟨h6,hb1,vk,hb2,hown⟩
  have hw:=wrapS i (by omega)
  simp -dsimp -implicitDefEqProofs only [go_sem,seval,h6]
  refine csplit (fun h => ?_) (fun h => ?_) <;> (try rw [h]) <;> (try simp only [bools] at h) <;> (try simp -dsimp -implicitDefEqProofs only [go_sem,seval,h6])
  ·obtain ⟨x,hx,hxm⟩:=get_of ‹i<e.kids.length›
   have hd:=ih x hxm (by have:=Expr.size_kid hxm; omega)
   have v1:=hown.valOf
   have v2:=hown.r2
   have v3:=hown.r3
   have v4:=hown.r4
   have v5:=hown.r5
   simp -dsimp -implicitDefEqProofs only [go_sem,seval,h6,hb1,hb2,hx,hd,v1,v2,v3,v4,v5]
   refine putA_app1 (hown.upd (by omega) _) (by omega) (by rw [rowsM_len]; simp; omega) (by decide) rfl (rowsM_all _ _) ?_
   intro v hp hO hoffs hkeep
   have hrow:([V.t (ti (x.mv to).op),V.t (ti (x.mv to).w),V.t (ti (x.mv to).n),V.t (.sl ((x.mv to).kids.map Expr.enc))]:List V)=(x.mv to).enc.map V.t:=by rw [Expr.enc_eq]; rfl
   replace hO:=ownB_rows hO (show _=rowsM to (e.kids.take (i+1)) by rw [rowsM_succ to hx, <- hrow])
   have u1:=hO.valOf
   have u2:=ownB_cells hO
   simp only [V.cells] at u2
   simp -dsimp -implicitDefEqProofs only [go_sem,seval,h6,hb1,hb2,u1,u2]
   refine ⟨by omega,by simp -dsimp -implicitDefEqProofs only [go_sem,seval,hw],by simp -dsimp -implicitDefEqProofs only [go_sem,seval,hb1],v,by simp -dsimp -implicitDefEqProofs only [go_sem,seval], ?_⟩
   simp -dsimp -implicitDefEqProofs only [go_sem,seval]; exact hO.le (by omega)
  ·have hik:i=e.kids.length:=by omega
   subst hik
   rw [List.take_length] at hown
   have t0:=own_reify hown (rowsM_norm to e.kids)
   have t1:=hown.valOf
   simp -dsimp -implicitDefEqProofs only [go_sem,seval,hb1,hb2,t0,t1]
   exact ⟨(Expr.mv_op to e).symm,(Expr.mv_w to e).symm,hmv.symm,kidsEnc to e⟩
 ·obtain ⟨z,hz,hmv⟩:=hN1 ⟨.inr ho,g0,g1⟩
  obtain ⟨N,hN⟩ : ∃ N,z=N:=⟨_,rfl⟩
  rw [hN] at hmv hz
  obtain ⟨o2,o3⟩:=hl1 ho
  simp -dsimp -implicitDefEqProofs only [go_sem,seval,o2,o3,decide_true,decide_false,g0,g1,hz]
  refine loopYH 9007130535264324 e.kids.length (fun i f h x=>(f 6).v=vi i/\(f 2).v = .lb /\ ∃ vk,(f 2).box=some [.t (ti e.op), .t (ti e.w), .t (ti N),vk]/\OwnB h x vk 4 (rowsM to (e.kids.take i))) rfl ⟨by simp -dsimp -implicitDefEqProofs only [go_sem,seval],by simp -dsimp -implicitDefEqProofs only [go_sem,seval], .t .nils,by simp -dsimp -implicitDefEqProofs only [go_sem,seval], .inl ⟨rfl,rfl⟩⟩ ?_
  rintro i f u H q bq hi ⟨h6,hb1,vk,hb2,hown⟩
  have hw:=wrapS i (by omega)
  simp -dsimp -implicitDefEqProofs only [go_sem,seval,h6]
  refine csplit (fun h => ?_) (fun h => ?_) <;> (try rw [h]) <;> (try simp only [bools] at h) <;> (try simp -dsimp -implicitDefEqProofs only [go_sem,seval,h6])
  ·obtain ⟨x,hx,hxm⟩:=get_of ‹i<e.kids.length›
   have hd:=ih x hxm (by have:=Expr.size_kid hxm; omega)
   have v1:=hown.valOf
   have v2:=hown.r2
   have v3:=hown.r3
   have v4:=hown.r4
   have v5:=hown.r5
   simp -dsimp -implicitDefEqProofs only [go_sem,seval,h6,hb1,hb2,hx,hd,v1,v2,v3,v4,v5]
   refine putA_app1 (hown.upd (by omega) _) (by omega) (by rw [rowsM_len]; simp; omega) (by decide) rfl (rowsM_all _ _) ?_
   intro v hp hO hoffs hkeep
   have hrow:([V.t (ti (x.mv to).op),V.t (ti (x.mv to).w),V.t (ti (x.mv to).n),V.t (.sl ((x.mv to).kids.map Expr.enc))]:List V)=(x.mv to).enc.map V.t:=by rw [Expr.enc_eq]; rfl
   replace hO:=ownB_rows hO (show _=rowsM to (e.kids.take (i+1)) by rw [rowsM_succ to hx, <- hrow])
   have u1:=hO.valOf
   have u2:=ownB_cells hO
   simp only [V.cells] at u2
   simp -dsimp -implicitDefEqProofs only [go_sem,seval,h6,hb1,hb2,u1,u2]
   refine ⟨by omega,by simp -dsimp -implicitDefEqProofs only [go_sem,seval,hw],by simp -dsimp -implicitDefEqProofs only [go_sem,seval,hb1],v,by simp -dsimp -implicitDefEqProofs only [go_sem,seval], ?_⟩
   simp -dsimp -implicitDefEqProofs only [go_sem,seval]; exact hO.le (by omega)
  ·have hik:i=e.kids.length:=by omega
   subst hik
   rw [List.take_length] at hown
   have t0:=own_reify hown (rowsM_norm to e.kids)
   have t1:=hown.valOf
   simp -dsimp -implicitDefEqProofs only [go_sem,seval,hb1,hb2,t0,t1]
   exact ⟨(Expr.mv_op to e).symm,(Expr.mv_w to e).symm,hmv.symm,kidsEnc to e⟩
 ·have hmv:=hout (.inr (by omega))
  obtain ⟨N,hN⟩ : ∃ N,e.n=N:=⟨_,rfl⟩
  rw [hN] at hmv
  obtain ⟨o2,o3⟩:=hl0 ho
  simp -dsimp -implicitDefEqProofs only [go_sem,seval,o2,o3,decide_true,g0,decide_false]
  rw [hN]
  refine loopYH 9007130535264324 e.kids.length (fun i f h x=>(f 6).v=vi i/\(f 2).v = .lb /\ ∃ vk,(f 2).box=some [.t (ti e.op), .t (ti e.w), .t (ti N),vk]/\OwnB h x vk 4 (rowsM to (e.kids.take i))) rfl ⟨by simp -dsimp -implicitDefEqProofs only [go_sem,seval],by simp -dsimp -implicitDefEqProofs only [go_sem,seval], .t .nils,by simp -dsimp -implicitDefEqProofs only [go_sem,seval], .inl ⟨rfl,rfl⟩⟩ ?_
  rintro i f u H q bq hi ⟨h6,hb1,vk,hb2,hown⟩
  have hw:=wrapS i (by omega)
  simp -dsimp -implicitDefEqProofs only [go_sem,seval,h6]
  refine csplit (fun h => ?_) (fun h => ?_) <;> (try rw [h]) <;> (try simp only [bools] at h) <;> (try simp -dsimp -implicitDefEqProofs only [go_sem,seval,h6])
  ·obtain ⟨x,hx,hxm⟩:=get_of ‹i<e.kids.length›
   have hd:=ih x hxm (by have:=Expr.size_kid hxm; omega)
   have v1:=hown.valOf
   have v2:=hown.r2
   have v3:=hown.r3
   have v4:=hown.r4
   have v5:=hown.r5
   simp -dsimp -implicitDefEqProofs only [go_sem,seval,h6,hb1,hb2,hx,hd,v1,v2,v3,v4,v5]
   refine putA_app1 (hown.upd (by omega) _) (by omega) (by rw [rowsM_len]; simp; omega) (by decide) rfl (rowsM_all _ _) ?_
   intro v hp hO hoffs hkeep
   have hrow:([V.t (ti (x.mv to).op),V.t (ti (x.mv to).w),V.t (ti (x.mv to).n),V.t (.sl ((x.mv to).kids.map Expr.enc))]:List V)=(x.mv to).enc.map V.t:=by rw [Expr.enc_eq]; rfl
   replace hO:=ownB_rows hO (show _=rowsM to (e.kids.take (i+1)) by rw [rowsM_succ to hx, <- hrow])
   have u1:=hO.valOf
   have u2:=ownB_cells hO
   simp only [V.cells] at u2
   simp -dsimp -implicitDefEqProofs only [go_sem,seval,h6,hb1,hb2,u1,u2]
   refine ⟨by omega,by simp -dsimp -implicitDefEqProofs only [go_sem,seval,hw],by simp -dsimp -implicitDefEqProofs only [go_sem,seval,hb1],v,by simp -dsimp -implicitDefEqProofs only [go_sem,seval], ?_⟩
   simp -dsimp -implicitDefEqProofs only [go_sem,seval]; exact hO.le (by omega)
  ·have hik:i=e.kids.length:=by omega
   subst hik
   rw [List.take_length] at hown
   have t0:=own_reify hown (rowsM_norm to e.kids)
   have t1:=hown.valOf
   simp -dsimp -implicitDefEqProofs only [go_sem,seval,hb1,hb2,t0,t1]
   exact ⟨(Expr.mv_op to e).symm,(Expr.mv_w to e).symm,hmv.symm,kidsEnc to e⟩
 ·have hmv:=hout (.inr (by omega))
  obtain ⟨N,hN⟩ : ∃ N,e.n=N:=⟨_,rfl⟩
  rw [hN] at hmv
  obtain ⟨o2,o3⟩:=hl1 ho
  simp -dsimp -implicitDefEqProofs only [go_sem,seval,o2,o3,decide_true,g0,decide_false]
  rw [hN]
  refine loopYH 9007130535264324 e.kids.length (fun i f h x=>(f 6).v=vi i/\(f 2).v = .lb /\ ∃ vk,(f 2).box=some [.t (ti e.op), .t (ti e.w), .t (ti N),vk]/\OwnB h x vk 4 (rowsM to (e.kids.take i))) rfl ⟨by simp -dsimp -implicitDefEqProofs only [go_sem,seval],by simp -dsimp -implicitDefEqProofs only [go_sem,seval], .t .nils,by simp -dsimp -implicitDefEqProofs only [go_sem,seval], .inl ⟨rfl,rfl⟩⟩ ?_
  rintro i f u H q bq hi ⟨h6,hb1,vk,hb2,hown⟩
  have hw:=wrapS i (by omega)
  simp -dsimp -implicitDefEqProofs only [go_sem,seval,h6]
  refine csplit (fun h => ?_) (fun h => ?_) <;> (try rw [h]) <;> (try simp only [bools] at h) <;> (try simp -dsimp -implicitDefEqProofs only [go_sem,seval,h6])
  ·obtain ⟨x,hx,hxm⟩:=get_of ‹i<e.kids.length›
   have hd:=ih x hxm (by have:=Expr.size_kid hxm; omega)
   have v1:=hown.valOf
   have v2:=hown.r2
   have v3:=hown.r3
   have v4:=hown.r4
   have v5:=hown.r5
   simp -dsimp -implicitDefEqProofs only [go_sem,seval,h6,hb1,hb2,hx,hd,v1,v2,v3,v4,v5]
   refine putA_app1 (hown.upd (by omega) _) (by omega) (by rw [rowsM_len]; simp; omega) (by decide) rfl (rowsM_all _ _) ?_
   intro v hp hO hoffs hkeep
   have hrow:([V.t (ti (x.mv to).op),V.t (ti (x.mv to).w),V.t (ti (x.mv to).n),V.t (.sl ((x.mv to).kids.map Expr.enc))]:List V)=(x.mv to).enc.map V.t:=by rw [Expr.enc_eq]; rfl
   replace hO:=ownB_rows hO (show _=rowsM to (e.kids.take (i+1)) by rw [rowsM_succ to hx, <- hrow])
   have u1:=hO.valOf
   have u2:=ownB_cells hO
   simp only [V.cells] at u2
   simp -dsimp -implicitDefEqProofs only [go_sem,seval,h6,hb1,hb2,u1,u2]
   refine ⟨by omega,by simp -dsimp -implicitDefEqProofs only [go_sem,seval,hw],by simp -dsimp -implicitDefEqProofs only [go_sem,seval,hb1],v,by simp -dsimp -implicitDefEqProofs only [go_sem,seval], ?_⟩
   simp -dsimp -implicitDefEqProofs only [go_sem,seval]; exact hO.le (by omega)
  ·have hik:i=e.kids.length:=by omega
   subst hik
   rw [List.take_length] at hown
   have t0:=own_reify hown (rowsM_norm to e.kids)
   have t1:=hown.valOf
   simp -dsimp -implicitDefEqProofs only [go_sem,seval,hb1,hb2,t0,t1]
   exact ⟨(Expr.mv_op to e).symm,(Expr.mv_w to e).symm,hmv.symm,kidsEnc to e⟩
 ·have hmv:=hout (.inr (by omega))
  obtain ⟨N,hN⟩ : ∃ N,e.n=N:=⟨_,rfl⟩
  rw [hN] at hmv
  obtain ⟨o2,o3⟩:=hl0 ho
  simp -dsimp -implicitDefEqProofs only [go_sem,seval,o2,o3,decide_true,g0,g1,decide_false]
  rw [hN]
  refine loopYH 9007130535264324 e.kids.length (fun i f h x=>(f 6).v=vi i/\(f 2).v = .lb /\ ∃ vk,(f 2).box=some [.t (ti e.op), .t (ti e.w), .t (ti N),vk]/\OwnB h x vk 4 (rowsM to (e.kids.take i))) rfl ⟨by simp -dsimp -implicitDefEqProofs only [go_sem,seval],by simp -dsimp -implicitDefEqProofs only [go_sem,seval], .t .nils,by simp -dsimp -implicitDefEqProofs only [go_sem,seval], .inl ⟨rfl,rfl⟩⟩ ?_
  rintro i f u H q bq hi ⟨h6,hb1,vk,hb2,hown⟩
  have hw:=wrapS i (by omega)
  simp -dsimp -implicitDefEqProofs only [go_sem,seval,h6]
  refine csplit (fun h => ?_) (fun h => ?_) <;> (try rw [h]) <;> (try simp only [bools] at h) <;> (try simp -dsimp -implicitDefEqProofs only [go_sem,seval,h6])
  ·obtain ⟨x,hx,hxm⟩:=get_of ‹i<e.kids.length›
   have hd:=ih x hxm (by have:=Expr.size_kid hxm; omega)
   have v1:=hown.valOf
   have v2:=hown.r2
   have v3:=hown.r3
   have v4:=hown.r4
   have v5:=hown.r5
   simp -dsimp -implicitDefEqProofs only [go_sem,seval,h6,hb1,hb2,hx,hd,v1,v2,v3,v4,v5]
   refine putA_app1 (hown.upd (by omega) _) (by omega) (by rw [rowsM_len]; simp; omega) (by decide) rfl (rowsM_all _ _) ?_
   intro v hp hO hoffs hkeep
   have hrow:([V.t (ti (x.mv to).op),V.t (ti (x.mv to).w),V.t (ti (x.mv to).n),V.t (.sl ((x.mv to).kids.map Expr.enc))]:List V)=(x.mv to).enc.map V.t:=by rw [Expr.enc_eq]; rfl
   replace hO:=ownB_rows hO (show _=rowsM to (e.kids.take (i+1)) by rw [rowsM_succ to hx, <- hrow])
   have u1:=hO.valOf
   have u2:=ownB_cells hO
   simp only [V.cells] at u2
   simp -dsimp -implicitDefEqProofs only [go_sem,seval,h6,hb1,hb2,u1,u2]
   refine ⟨by omega,by simp -dsimp -implicitDefEqProofs only [go_sem,seval,hw],by simp -dsimp -implicitDefEqProofs only [go_sem,seval,hb1],v,by simp -dsimp -implicitDefEqProofs only [go_sem,seval], ?_⟩
   simp -dsimp -implicitDefEqProofs only [go_sem,seval]; exact hO.le (by omega)
  ·have hik:i=e.kids.length:=by omega
   subst hik
   rw [List.take_length] at hown
   have t0:=own_reify hown (rowsM_norm to e.kids)
   have t1:=hown.valOf
   simp -dsimp -implicitDefEqProofs only [go_sem,seval,hb1,hb2,t0,t1]
   exact ⟨(Expr.mv_op to e).symm,(Expr.mv_w to e).symm,hmv.symm,kidsEnc to e⟩
 ·have hmv:=hout (.inr (by omega))
  obtain ⟨N,hN⟩ : ∃ N,e.n=N:=⟨_,rfl⟩
  rw [hN] at hmv
  obtain ⟨o2,o3⟩:=hl1 ho
  simp -dsimp -implicitDefEqProofs only [go_sem,seval,o2,o3,decide_true,g0,g1,decide_false]
  rw [hN]
  refine loopYH 9007130535264324 e.kids.length (fun i f h x=>(f 6).v=vi i/\(f 2).v = .lb /\ ∃ vk,(f 2).box=some [.t (ti e.op), .t (ti e.w), .t (ti N),vk]/\OwnB h x vk 4 (rowsM to (e.kids.take i))) rfl ⟨by simp -dsimp -implicitDefEqProofs only [go_sem,seval],by simp -dsimp -implicitDefEqProofs only [go_sem,seval], .t .nils,by simp -dsimp -implicitDefEqProofs only [go_sem,seval], .inl ⟨rfl,rfl⟩⟩ ?_
  rintro i f u H q bq hi ⟨h6,hb1,vk,hb2,hown⟩
  have hw:=wrapS i (by omega)
  simp -dsimp -implicitDefEqProofs only [go_sem,seval,h6]
  refine csplit (fun h => ?_) (fun h => ?_) <;> (try rw [h]) <;> (try simp only [bools] at h) <;> (try simp -dsimp -implicitDefEqProofs only [go_sem,seval,h6])
  ·obtain ⟨x,hx,hxm⟩:=get_of ‹i<e.kids.length›
   have hd:=ih x hxm (by have:=Expr.size_kid hxm; omega)
   have v1:=hown.valOf
   have v2:=hown.r2
   have v3:=hown.r3
   have v4:=hown.r4
   have v5:=hown.r5
   simp -dsimp -implicitDefEqProofs only [go_sem,seval,h6,hb1,hb2,hx,hd,v1,v2,v3,v4,v5]
   refine putA_app1 (hown.upd (by omega) _) (by omega) (by rw [rowsM_len]; simp; omega) (by decide) rfl (rowsM_all _ _) ?_
   intro v hp hO hoffs hkeep
   have hrow:([V.t (ti (x.mv to).op),V.t (ti (x.mv to).w),V.t (ti (x.mv to).n),V.t (.sl ((x.mv to).kids.map Expr.enc))]:List V)=(x.mv to).enc.map V.t:=by rw [Expr.enc_eq]; rfl
   replace hO:=ownB_rows hO (show _=rowsM to (e.kids.take (i+1)) by rw [rowsM_succ to hx, <- hrow])
   have u1:=hO.valOf
   have u2:=ownB_cells hO
   simp only [V.cells] at u2
   simp -dsimp -implicitDefEqProofs only [go_sem,seval,h6,hb1,hb2,u1,u2]
   refine ⟨by omega,by simp -dsimp -implicitDefEqProofs only [go_sem,seval,hw],by simp -dsimp -implicitDefEqProofs only [go_sem,seval,hb1],v,by simp -dsimp -implicitDefEqProofs only [go_sem,seval], ?_⟩
   simp -dsimp -implicitDefEqProofs only [go_sem,seval]; exact hO.le (by omega)
  ·have hik:i=e.kids.length:=by omega
   subst hik
   rw [List.take_length] at hown
   have t0:=own_reify hown (rowsM_norm to e.kids)
   have t1:=hown.valOf
   simp -dsimp -implicitDefEqProofs only [go_sem,seval,hb1,hb2,t0,t1]
   exact ⟨(Expr.mv_op to e).symm,(Expr.mv_w to e).symm,hmv.symm,kidsEnc to e⟩
 ·have hmv:=hout (.inl (by omega))
  obtain ⟨N,hN⟩ : ∃ N,e.n=N:=⟨_,rfl⟩
  rw [hN] at hmv
  simp -dsimp -implicitDefEqProofs only [go_sem,seval,ho,ho2,decide_false]
  rw [hN]
  refine loopYH 9007130535264324 e.kids.length (fun i f h x=>(f 6).v=vi i/\(f 2).v = .lb /\ ∃ vk,(f 2).box=some [.t (ti e.op), .t (ti e.w), .t (ti N),vk]/\OwnB h x vk 4 (rowsM to (e.kids.take i))) rfl ⟨by simp -dsimp -implicitDefEqProofs only [go_sem,seval],by simp -dsimp -implicitDefEqProofs only [go_sem,seval], .t .nils,by simp -dsimp -implicitDefEqProofs only [go_sem,seval], .inl ⟨rfl,rfl⟩⟩ ?_
  rintro i f u H q bq hi ⟨h6,hb1,vk,hb2,hown⟩
  have hw:=wrapS i (by omega)
  simp -dsimp -implicitDefEqProofs only [go_sem,seval,h6]
  refine csplit (fun h => ?_) (fun h => ?_) <;> (try rw [h]) <;> (try simp only [bools] at h) <;> (try simp -dsimp -implicitDefEqProofs only [go_sem,seval,h6])
  ·obtain ⟨x,hx,hxm⟩:=get_of ‹i<e.kids.length›
   have hd:=ih x hxm (by have:=Expr.size_kid hxm; omega)
   have v1:=hown.valOf
   have v2:=hown.r2
   have v3:=hown.r3
   have v4:=hown.r4
   have v5:=hown.r5
   simp -dsimp -implicitDefEqProofs only [go_sem,seval,h6,hb1,hb2,hx,hd,v1,v2,v3,v4,v5]
   refine putA_app1 (hown.upd (by omega) _) (by omega) (by rw [rowsM_len]; simp; omega) (by decide) rfl (rowsM_all _ _) ?_
   intro v hp hO hoffs hkeep
   have hrow:([V.t (ti (x.mv to).op),V.t (ti (x.mv to).w),V.t (ti (x.mv to).n),V.t (.sl ((x.mv to).kids.map Expr.enc))]:List V)=(x.mv to).enc.map V.t:=by rw [Expr.enc_eq]; rfl
   replace hO:=ownB_rows hO (show _=rowsM to (e.kids.take (i+1)) by rw [rowsM_succ to hx, <- hrow])
   have u1:=hO.valOf
   have u2:=ownB_cells hO
   simp only [V.cells] at u2
   simp -dsimp -implicitDefEqProofs only [go_sem,seval,h6,hb1,hb2,u1,u2]
   refine ⟨by omega,by simp -dsimp -implicitDefEqProofs only [go_sem,seval,hw],by simp -dsimp -implicitDefEqProofs only [go_sem,seval,hb1],v,by simp -dsimp -implicitDefEqProofs only [go_sem,seval], ?_⟩
   simp -dsimp -implicitDefEqProofs only [go_sem,seval]; exact hO.le (by omega)
  ·have hik:i=e.kids.length:=by omega
   subst hik
   rw [List.take_length] at hown
   have t0:=own_reify hown (rowsM_norm to e.kids)
   have t1:=hown.valOf
   simp -dsimp -implicitDefEqProofs only [go_sem,seval,hb1,hb2,t0,t1]
   exact ⟨(Expr.mv_op to e).symm,(Expr.mv_w to e).symm,hmv.symm,kidsEnc to e⟩
end Rg
end
section
set_option maxRecDepth 100000
namespace Rg
open Go
structure OwnT (h:Nat->Option O) (lo x:Nat) (v:V) (sz d:Nat) (rows:List (List V)) (es:List (List T)):Prop where
 own:OwnB h x v sz rows
 all:(rows.all fun r=>decide (r.length=sz))=true
 len:rows.length=es.length
 low : ∀ j,j<lo->offK v j
 sh : ∀ h2:Nat->Option O,(∀ j,lo<=j->j<x->offK v j->h2 j=h j)->rows.mapM (fun r=>r.mapM (toT h2 d))=some es
def OwnX (h:Nat->Option O) (lo x:Nat) (v:V) (sz d:Nat) (es:List (List T)):Prop := ∃ rows,OwnT h lo x v sz d rows es
theorem OwnT.nil (h:Nat->Option O) (lo x sz d:Nat):OwnT h lo x (.t .nils) sz d [] []:=⟨.inl ⟨rfl,rfl⟩,rfl,rfl,(fun j _ i n h=>by cases h),fun _ _=>rfl⟩
theorem OwnT.keep {h h' : Nat->Option O} {lo x y:Nat} {v:V} {sz d:Nat} {rows:List (List V)} {es:List (List T)} (o:OwnT h lo x v sz d rows es) (hxy:x<=y) (hh : ∀ j,j<x->h' j=h j):OwnT h' lo y v sz d rows es :=
 ⟨o.own.keep hxy fun k hk _=>hh k hk,o.all,o.len,o.low,fun h2 h3=>o.sh h2 fun j hl hj ho=>(h3 j hl (by omega) ho).trans (hh j hj)⟩
theorem OwnT.toT {h:Nat->Option O} {lo x:Nat} {v:V} {sz d:Nat} {rows:List (List V)} {es:List (List T)} (o:OwnT h lo x v sz d rows es) {h2:Nat->Option O} (hh : ∀ j,lo<=j->j<x->h2 j=h j):Rg.toT h2 (d+1) v=some (.sl es):=by
 have h1:=o.sh h2 fun j hl hj _=>hh j hl hj
 rcases o.own with ⟨rfl,rfl⟩ | ⟨k,rfl,hk,hr⟩
 ·have:es=[]:=by have:=o.len; simpa using this.symm
  subst this; rfl
 ·have hlk:lo<=k:=by
   rcases Nat.lt_or_ge k lo with h0 | h0
   ·exact absurd rfl (o.low k h0 0 rows.length)
   ·exact h0
  exact toT_ms (r:=rows) ((hh k hlk hk).trans hr) (by unfold rd; rw [if_pos (by omega),List.drop_zero,List.take_of_length_le (Nat.le_refl _)]) h1
theorem OwnT.snoc {h H H' : Nat->Option O} {lo x x' y:Nat} {u v:V} {sz d:Nat} {a:List (List V)} {es:List (List T)} {row:List V} {e:List T} (o:OwnT h lo x u sz d a es) (hlo:lo<=x) (hx:x<=x') (hxy:x' <= y)
 (hO:OwnB H' y v sz (a++[row])) (hoffs : ∀ j,j<x' -> offK v j) (hkeep : ∀ j,j<x' -> offK u j->H' j=H j) (hlow : ∀ j,j<x->H j=h j) (hsz:row.length=sz)
 (hrow : ∀ h2:Nat->Option O,(∀ j,x<=j->j<x' -> h2 j=H j)->row.mapM (Rg.toT h2 d)=some e):OwnT H' lo y v sz d (a++[row]) (es++[e]):=by
 refine ⟨hO, ?_,by simp [o.len],fun j hj=>hoffs j (by omega),fun h2 hh => ?_⟩
 ·rw [List.all_append,o.all]; simp [hsz]
 ·have h1:=o.sh h2 fun j hl hj ho=>((hh j hl (by omega) (hoffs j (by omega))).trans (hkeep j (by omega) ho)).trans (hlow j hj)
  have h3:=hrow h2 fun j hj hj' => (hh j (by omega) (by omega) (hoffs j hj')).trans (hkeep j hj' (o.own.off hj))
  rw [List.mapM_append,h1]
  simp [h3]
theorem ownB_toT {h h2:Nat->Option O} {x:Nat} {v:V} {sz d:Nat} {es:List (List T)} (o:OwnB h x v sz (es.map (·.map V.t))) (hn : ∀ e∈es, ∀ t∈e,T.norm t=t) (hh : ∀ j,j<x -> ¬ offK v j->h2 j=h j):toT h2 (d+1) v=some (.sl es):=by
 rcases o with ⟨rfl,he⟩ | ⟨k,rfl,hk,hr⟩
 ·have:es=[]:=by simpa using he
  subst this; rfl
 ·refine toT_ms (r:=es.map (·.map V.t)) ((hh k hk (fun h0=>h0 _ _ rfl)).trans hr) (by unfold rd; rw [if_pos (by simp),List.drop_zero,List.take_of_length_le (by simp)]) ?_
  exact rows_toT h2 d es hn
end Rg
end
