/- Part of the proof of the laws of the package relyguardlaw07: an abstract machine for the program's functions, what they compute, and that the machine is the program's. No condition. (H33a H33b H33c H33d) -/
import Derived.Test.YtamaecmfhphpeaaGreatDoorPartBE
import Derived.Test.YtamaecmfhphpeaaGreatDoorPartBC
set_option linter.unusedSimpArgs false
set_option linter.unusedVariables false
section
set_option maxRecDepth 100000
namespace Rg
open Go
theorem sorted_uniq : ∀ {l m:List Int},l.Pairwise (· < ·)->m.Pairwise (· < ·)->(∀ x,x∈l<->x∈m)->l=m
 | [],[],_,_,_=>rfl
 | [],b::m,_,_,h=>by have:=(h b).2 (by simp); simp at this
 | a::l,[],_,_,h=>by have:=(h a).1 (by simp); simp at this
 | a::l,b::m,hl,hm,h=>by
  have hl' := List.pairwise_cons.1 hl
  have hm' := List.pairwise_cons.1 hm
  have hab:a=b:=by
   have h1:=(h a).1 (by simp)
   have h2:=(h b).2 (by simp)
   rcases List.mem_cons.1 h1 with e | h1
   ·exact e
   ·rcases List.mem_cons.1 h2 with e | h2
    ·exact e.symm
    ·have:=hm'.1 a h1
     have:=hl'.1 b h2
     omega
  subst hab
  rw [sorted_uniq hl'.2 hm'.2 fun x => ?_]
  constructor
  ·intro hx
   rcases List.mem_cons.1 ((h x).1 (List.mem_cons_of_mem _ hx)) with e | e
   ·subst e; have:=hl'.1 x hx; omega
   ·exact e
  ·intro hx
   rcases List.mem_cons.1 ((h x).2 (List.mem_cons_of_mem _ hx)) with e | e
   ·subst e; have:=hm'.1 x hx; omega
   ·exact e
def posM (out:List Int) (x:Int):Nat:=(out.takeWhile (· < x)).length
def insM (out:List Int) (x:Int):List Int:=if out[posM out x]? = some x then out else out.take (posM out x)++[x]++out.drop (posM out x)
def insL (l:List Int) (i:Nat):List Int:=(l.take i).foldl insM []
theorem insL_succ {l:List Int} {i:Nat} {x:Int} (h:l[i]? = some x):insL l (i+1)=insM (insL l i) x:=by
 unfold insL; rw [take_succ_of h,List.foldl_append]; rfl
theorem posM_lt {out:List Int} {x:Int} {j:Nat} {y:Int} (hj:j<posM out x) (hy:out[j]? = some y):y<x:=by
 induction out generalizing j with
 | nil=>simp [posM] at hj
 | cons a l ih =>
  unfold posM at hj
  rw [List.takeWhile_cons] at hj
  split at hj
  ·rename_i ha
   cases j with
   | zero=>simp at hy; subst hy; simpa using ha
   | succ j=>exact ih (by simpa [posM] using hj) (by simpa using hy)
  ·simp at hj
theorem posM_ge {out:List Int} {x y:Int} (hy:out[posM out x]? = some y):x<=y:=by
 induction out with
 | nil=>simp at hy
 | cons a l ih =>
  unfold posM at hy ih
  rw [List.takeWhile_cons] at hy
  split at hy
  ·exact ih (by simpa using hy)
  ·rename_i ha; simp at hy ha; omega
theorem posM_le (out:List Int) (x:Int):posM out x<=out.length:=by
 unfold posM
 exact (List.takeWhile_sublist _).length_le
theorem posM_of {out:List Int} {x:Int} {at_:Nat} (h1 : ∀ (j:Nat) (y:Int),j<at_->out[j]? = some y->y<x) (h2:at_<=out.length) (h3 : ∀ y,out[at_]? = some y->x<=y):at_=posM out x:=by
 rcases Nat.lt_trichotomy at_ (posM out x) with h | h | h
 ·have hl:=posM_le out x
  obtain ⟨y,hy⟩ : ∃ y,out[at_]? = some y:=⟨_,List.getElem?_eq_getElem (by omega)⟩
  have:=posM_lt h hy
  have:=h3 y hy
  omega
 ·exact h
 ·obtain ⟨y,hy⟩ : ∃ y,out[posM out x]? = some y:=⟨_,List.getElem?_eq_getElem (by omega)⟩
  have:=h1 _ y h hy
  have:=posM_ge hy
  omega
theorem insM_mem (out:List Int) (x y:Int):y∈insM out x<->y=x\/y∈out:=by
 unfold insM
 split
 ·rename_i h
  constructor
  ·exact .inr
  ·rintro (rfl | h1)
   ·exact List.mem_of_getElem? h
   ·exact h1
 ·rw [List.mem_append,List.mem_append,List.mem_singleton]
  have:y∈out<->y∈out.take (posM out x)\/y∈out.drop (posM out x):=by rw [<- List.mem_append,List.take_append_drop]
  rw [this]
  constructor
  ·rintro ((h | h) | h) <;> simp [h]
  ·rintro (h | h | h) <;> simp [h]
theorem insM_sorted {out:List Int} (x:Int) (hs:out.Pairwise (· < ·)):(insM out x).Pairwise (· < ·):=by
 unfold insM
 split
 ·exact hs
 ·rename_i hne
  have hmem1 : ∀ y∈out.take (posM out x),y<x:=by
   intro y hy
   obtain ⟨j,hj,rfl⟩:=List.mem_iff_getElem.1 hy
   have hj' : j<posM out x:=by simp at hj; omega
   refine posM_lt hj' ?_
   rw [List.getElem_take]; exact List.getElem?_eq_getElem _
  have hmem2 : ∀ y∈out.drop (posM out x),x<y:=by
   intro y hy
   obtain ⟨j,hj,rfl⟩:=List.mem_iff_getElem.1 hy
   rw [List.getElem_drop]
   simp only [List.length_drop] at hj
   have h0:posM out x<out.length:=by omega
   have hg:=posM_ge (List.getElem?_eq_getElem h0)
   have hne' : out[posM out x]≠x:=fun e=>hne (by rw [List.getElem?_eq_getElem h0,e])
   rcases Nat.eq_zero_or_pos j with h | h
   ·subst h; simp only [Nat.add_zero]; omega
   ·have:=List.pairwise_iff_getElem.1 hs (posM out x) (posM out x+j) h0 (by omega) (by omega)
    omega
  rw [List.pairwise_append,List.pairwise_append]
  refine ⟨⟨hs.sublist (List.take_sublist _ _),List.pairwise_singleton _ _,fun a ha b hb => ?_⟩,hs.sublist (List.drop_sublist _ _),fun a ha b hb => ?_⟩
  ·rw [List.mem_singleton.1 hb]; exact hmem1 a ha
  ·have h2:=hmem2 b hb
   rcases List.mem_append.1 ha with ha | ha
   ·have:=hmem1 a ha; omega
   ·rw [List.mem_singleton.1 ha]; exact h2
theorem insL_sorted (l:List Int) : ∀ i,(insL l i).Pairwise (· < ·)
 | 0=>by simp [insL]
 | i+1=>by
  cases h:l[i]? with
  | none =>
   have:insL l (i+1)=insL l i:=by
    rw [List.getElem?_eq_none_iff] at h
    unfold insL; rw [List.take_of_length_le (by omega),List.take_of_length_le h]
   rw [this]; exact insL_sorted l i
  | some x=>rw [insL_succ h]; exact insM_sorted x (insL_sorted l i)
theorem insL_mem (l:List Int) (y:Int) : ∀ i,y∈insL l i<->y∈l.take i
 | 0=>by simp [insL]
 | i+1=>by
  cases h:l[i]? with
  | none =>
   rw [List.getElem?_eq_none_iff] at h
   have:insL l (i+1)=insL l i:=by unfold insL; rw [List.take_of_length_le (by omega),List.take_of_length_le h]
   rw [this,insL_mem l y i,List.take_of_length_le h,List.take_of_length_le (by omega)]
  | some x =>
   rw [insL_succ h,insM_mem,insL_mem l y i,take_succ_of h,List.mem_append,List.mem_singleton]
   constructor
   ·rintro (h | h) <;> simp [h]
   ·rintro (h | h) <;> simp [h]
theorem insL_eq (l:List Int):insL l l.length=sortedM l:=by
 refine sorted_uniq (insL_sorted l _) (sortedM_sorted l) fun x => ?_
 rw [insL_mem,List.take_length,sortedM_mem]
theorem insM_len (out:List Int) (x:Int):(insM out x).length<=out.length+1:=by
 unfold insM
 split
 ·omega
 ·simp; omega
theorem insL_len (l:List Int) : ∀ i,(insL l i).length<=i
 | 0=>by simp [insL]
 | i+1=>by
  have hi:=insL_len l i
  cases h:l[i]? with
  | none =>
   have:insL l (i+1)=insL l i:=by
    rw [List.getElem?_eq_none_iff] at h
    unfold insL; rw [List.take_of_length_le (by omega),List.take_of_length_le h]
   rw [this]; omega
  | some x=>rw [insL_succ h]; have:=insM_len (insL l i) x; omega
theorem sorted7_den (l:List Int) (hl:l.length<2^30):Den Γ G 252 [.t (ints l)]=some (.t (ints (sortedM l))):=by
 (refine den_ofY Γ252 rfl ?_; dsimp only [f252])
 simp -dsimp -implicitDefEqProofs only [go_sem,seval]
 refine loopYH 576460752303423480 l.length (fun i f h x=>(f 4).v=vi i/\OwnB h x (f 3).v 1 (rowsI (insL l i))) rfl ⟨by simp -dsimp -implicitDefEqProofs only [go_sem,seval], .inl ⟨by simp -dsimp -implicitDefEqProofs only [go_sem,seval],rfl⟩⟩ ?_
 rintro i f u H q bq hi ⟨h4,hown⟩
 have hw:=wrapS i (by omega)
 have v1:=hown.valOf
 simp -dsimp -implicitDefEqProofs only [go_sem,seval,h4,v1]
 refine csplit (fun h => ?_) (fun h => ?_) <;> (try rw [h]) <;> (try simp only [bools] at h) <;> (try simp -dsimp -implicitDefEqProofs only [go_sem,seval,h4,v1])
 ·obtain ⟨x,hx,_⟩:=get_of ‹i<l.length›
  have hsucc:=insL_succ hx
  have hln:=insL_len l i
  obtain ⟨out,hout⟩ : ∃ out,out=insL l i:=⟨_,rfl⟩
  rw [<- hout] at hown hsucc hln
  rcases hown with ⟨hv,he⟩ | ⟨k,hv,hk,hh⟩
  ·have:out=[]:=by simpa [rowsI] using he
   subst this
   refine loopYH 536866848 0 (fun j f h y=>(f 5).v=vi j/\q<y) rfl ⟨by simp -dsimp -implicitDefEqProofs only [go_sem,seval],by simp only [addC_eq]; simp; try omega⟩ ?_
   rintro j f2 u2 H2 q2 b2 hj ⟨h5,hq2⟩
   have:j=0:=by omega
   subst this
   have hres:insM [] x=[x]:=rfl
   rw [hres] at hsucc
   simp -dsimp -implicitDefEqProofs only [go_sem,seval,h4,h5,hv,hx]
   refine putA_appU (a:=[]) (b:=[]) (by simp -dsimp -implicitDefEqProofs only [go_sem,seval]) rfl (by simp) (by decide) rfl rfl ?_
   intro k2 hp2 hk2 hA hfr
   simp only [List.append_nil,List.length_nil] at hA ⊢
   have e0:updC H2 (q2+15+15+0) (some (O.rows 1 [] false))=hpC H2 [(q2+15+15+0,O.rows 1 [] false)]:=by rw [hpC_cons,hpC_nil]
   rw [e0] at hA
   clear hfr
   generalize hpC (hpC H2 [(q2+15+15+0,O.rows 1 [] false)]) hp2=H3 at hA ⊢
   have hk2l:k2<q2+15+15+5:=by omega
   clear e0
   have z1:(k2=q2+15+15+9)=False:=eq_false (by omega)
   simp -dsimp -implicitDefEqProofs only [go_sem,seval,h4,hx,hA,hv,z1,Nat.zero_le,List.length_nil,List.take_zero,List.take_nil]
   refine putA_appU (a:=[]) (by simp -dsimp -implicitDefEqProofs only [go_sem,seval,z1,hA]) rfl (by simp) (by decide) rfl rfl ?_
   intro k3 hp3 hk3 hB hfr
   clear hfr
   have e0:updC H3 (q2+15+15+9) (some (O.rows 1 [[.t (ti x)]] false))=hpC H3 [(q2+15+15+9,O.rows 1 [[.t (ti x)]] false)]:=by rw [hpC_cons,hpC_nil]
   rw [e0] at hB
   generalize hpC (hpC H3 [(q2+15+15+9,O.rows 1 [[.t (ti x)]] false)]) hp3=H4 at hB ⊢
   clear e0
   simp only [List.nil_append,List.length_cons,List.length_nil,Nat.zero_add] at hB ⊢
   simp -dsimp -implicitDefEqProofs only [go_sem,seval,h4,h5,hx,hB,hv,hw]
   refine putA_appU (a:=[[.t (ti x)]]) (b:=[]) hB rfl (by simp) (by decide) rfl rfl ?_
   intro k4 hp4 hk4 hC hfr
   clear hfr
   generalize hpC H4 hp4=H5 at hC ⊢
   simp -dsimp -implicitDefEqProofs only [go_sem,seval,h4,hw]
   show _/\_
   refine ⟨by omega,by simp -dsimp -implicitDefEqProofs only [go_sem,seval], ?_⟩
   rw [hsucc]
   exact .inr ⟨k4,by simp -dsimp -implicitDefEqProofs only [go_sem,seval] <;> rfl,by simp only [addC_eq]; simp; try omega,hC⟩
  ·rw [rowsI_len] at hv
   refine loopYH 536866848 out.length (fun j f h y=>(f 5).v=vi j/\h k=some (.rows 1 (rowsI out) false)/\k<y /\ ∀ (a:Nat) (z:Int),a<j->out[a]? = some z->z<x) rfl ⟨by simp -dsimp -implicitDefEqProofs only [go_sem,seval],by simp -dsimp -implicitDefEqProofs only [go_sem,seval,hh],by simp only [addC_eq]; omega,fun a z h=>by omega⟩ ?_
   rintro j f2 u2 H2 q2 b2 hj ⟨h5,hh2,hk2,hlt⟩
   have hwj:=wrapS j (by omega)
   by_cases hjl:j<out.length
   ·have hjl1:(j<out.length)=True:=eq_true hjl
    have hjl2:((j:Int)<(out.length:Int))=True:=eq_true (by omega)
    have hjl3:decide ((j:Int)=(out.length:Int))=false:=by simp; omega
    obtain ⟨y,hy,_⟩:=get_of hjl
    have hrow:=rowsI_at' hy
    by_cases hyx:y<x
    ·simp -dsimp -implicitDefEqProofs only [go_sem,seval,h4,h5,hv,hx,hh2,hjl1,hjl2,hy,hrow,hyx,decide_true,hwj]
     show _/\_
     refine ⟨hjl,by simp -dsimp -implicitDefEqProofs only [go_sem,seval],by simp -dsimp -implicitDefEqProofs only [go_sem,seval,hh2],by simp only [addC_eq]; omega,fun a z ha hz => ?_⟩
     rcases Nat.lt_or_ge a j with h | h
     ·exact hlt a z h hz
     ·have:a=j:=by omega
      subst this
      rw [hy] at hz; cases hz; exact hyx
    ·have hpos:j=posM out x:=posM_of hlt (by omega) fun z hz=>by rw [hy] at hz; cases hz; omega
     by_cases hyx2:y=x
     ·have hres:insM out x=out:=by unfold insM; rw [<- hpos,hy,hyx2,if_pos rfl]
      subst hyx2
      simp -dsimp -implicitDefEqProofs only [go_sem,seval,h4,h5,hv,hx,hh2,hjl1,hjl2,hjl3,hy,hrow,Int.lt_irrefl,decide_true,decide_false,hw]
      show _/\_
      refine ⟨by omega,by simp -dsimp -implicitDefEqProofs only [go_sem,seval], ?_⟩
      rw [hsucc,hres]
      exact .inr ⟨k,by simp -dsimp -implicitDefEqProofs only [go_sem,seval,hv,rowsI_len],by simp only [addC_eq]; omega,hh2⟩
     ·have z0:(k=q2+15+15+0)=False:=eq_false (by omega)
      have e1:(0<=(j:Int))=True:=eq_true (by omega)
      have e2:((j:Int)<=(out.length:Int))=True:=eq_true (by omega)
      have e3:((j:Int)-0).toNat=j:=by omega
      have e5:(j<=(rowsI out).length)=True:=eq_true (by rw [rowsI_len]; omega)
      have t1:List.take j (rowsI out)=rowsI (out.take j):=by simp [rowsI]
      simp -dsimp -implicitDefEqProofs only [go_sem,seval,z0,e1,e2,e3,e5,t1,h4,h5,hv,hx,hh2,hjl1,hjl2,hjl3,hy,hrow,hyx,hyx2,decide_true,decide_false,hw]
      refine putA_appU (a:=[]) (by simp -dsimp -implicitDefEqProofs only [go_sem,seval]) rfl (by simp [rowsI]; omega) (by decide) (rowsI_all _) rfl ?_
      intro k2 hp2 hkk hA hfr
      have hK:hpC (updC H2 (q2+15+15+0) (some (O.rows 1 [] false))) hp2 k=H2 k:=by rw [hfr k (by omega) (by omega),updC_at,if_neg (by omega)]
      have e0:updC H2 (q2+15+15+0) (some (O.rows 1 [] false))=hpC H2 [(q2+15+15+0,O.rows 1 [] false)]:=by rw [hpC_cons,hpC_nil]
      rw [hh2,e0] at hK
      rw [e0,List.nil_append] at hA
      clear hfr
      generalize hpC (hpC H2 [(q2+15+15+0,O.rows 1 [] false)]) hp2=H3 at hA hK ⊢
      clear e0
      rw [List.nil_append]
      have z1:(k2=q2+15+15+9)=False:=eq_false (by omega)
      have z2:((rowsI (out.take j)).length<=(rowsI (out.take j)).length)=True:=eq_true (Nat.le_refl _)
      have z3:List.take (rowsI (out.take j)).length (rowsI (out.take j))=rowsI (out.take j):=List.take_of_length_le (Nat.le_refl _)
      simp -dsimp -implicitDefEqProofs only [go_sem,seval,z1,z2,z3,e1,e2,e3,h4,h5,hv,hx,hA]
      refine putA_appU (a:=rowsI (out.take j)) (by simp -dsimp -implicitDefEqProofs only [go_sem,seval,z1,hA]) rfl (by simp [rowsI]; omega) (by decide) (by rfl) (rowsI_all _) ?_
      intro k3 hp3 hkk3 hB hfr
      have hK2:hpC (updC H3 (q2+15+15+9) (some (O.rows 1 [[.t (ti x)]] false))) hp3 k=H3 k:=by rw [hfr k (by omega) (by omega),updC_at,if_neg (by omega)]
      have e0:updC H3 (q2+15+15+9) (some (O.rows 1 [[.t (ti x)]] false))=hpC H3 [(q2+15+15+9,O.rows 1 [[.t (ti x)]] false)]:=by rw [hpC_cons,hpC_nil]
      rw [hK,e0] at hK2
      rw [e0] at hB
      clear hfr
      generalize hpC (hpC H3 [(q2+15+15+9,O.rows 1 [[.t (ti x)]] false)]) hp3=H4 at hB hK2 ⊢
      clear e0 hA hK
      have hab:rowsI (out.take j)++[[.t (ti x)]]=rowsI (out.take j++[x]):=by simp [rowsI]
      rw [hab] at hB ⊢
      have f1:((out.length:Int)<=(out.length:Int))=True:=eq_true (Int.le_refl _)
      have f2:((out.length:Int)-(j:Int)).toNat=out.length-j:=by omega
      have f3:((rowsI (out.take j++[x])).length<=(rowsI (out.take j++[x])).length)=True:=eq_true (Nat.le_refl _)
      have f4:List.take (rowsI (out.take j++[x])).length (rowsI (out.take j++[x]))=rowsI (out.take j++[x]):=List.take_of_length_le (Nat.le_refl _)
      have f5:(j+(out.length-j)<=(rowsI out).length)=True:=eq_true (by rw [rowsI_len]; omega)
      have f6:List.take (out.length-j) (List.drop j (rowsI out))=rowsI (out.drop j):=by rw [List.take_of_length_le (by simp [rowsI])]; simp [rowsI]
      simp -dsimp -implicitDefEqProofs only [go_sem,seval,e1,e2,e3,f1,f2,f3,f4,f5,f6,h4,h5,hv,hx,hB,hK2]
      refine putA_appU hB rfl (by simp [rowsI]; omega) (by decide) (rowsI_all _) (rowsI_all _) ?_
      intro k4 hp4 hk4 hC hfr
      clear hfr
      generalize hpC H4 hp4=H5 at hC ⊢
      have hcd:rowsI (out.take j++[x])++rowsI (out.drop j)=rowsI (insM out x):=by rw [show insM out x=out.take j++[x]++out.drop j by unfold insM; rw [<- hpos,hy,if_neg (by intro h; cases h; exact hyx2 rfl)]]; simp [rowsI]
      rw [hcd] at hC ⊢
      simp -dsimp -implicitDefEqProofs only [go_sem,seval,h4,hw]
      show _/\_
      refine ⟨by omega,by simp -dsimp -implicitDefEqProofs only [go_sem,seval], ?_⟩
      rw [hsucc]
      exact .inr ⟨k4,by simp -dsimp -implicitDefEqProofs only [go_sem,seval] <;> rfl,by simp only [addC_eq]; simp; try omega,hC⟩
   ·have hjl1:(j<out.length)=False:=eq_false hjl
    have hjl2:((j:Int)<(out.length:Int))=False:=eq_false (by omega)
    have hjl3:decide ((j:Int)=(out.length:Int))=true:=by simp; omega
    have hpos:j=posM out x:=posM_of hlt (by omega) fun z hz=>by rw [List.getElem?_eq_none (by omega)] at hz; cases hz
    have z0:(k=q2+15+15+0)=False:=eq_false (by omega)
    have e1:(0<=(j:Int))=True:=eq_true (by omega)
    have e2:((j:Int)<=(out.length:Int))=True:=eq_true (by omega)
    have e3:((j:Int)-0).toNat=j:=by omega
    have e5:(j<=(rowsI out).length)=True:=eq_true (by rw [rowsI_len]; omega)
    have t1:List.take j (rowsI out)=rowsI (out.take j):=by simp [rowsI]
    simp -dsimp -implicitDefEqProofs only [go_sem,seval,z0,e1,e2,e3,e5,t1,h4,h5,hv,hx,hh2,hjl1,hjl2,hjl3,decide_true,decide_false,hw]
    refine putA_appU (a:=[]) (by simp -dsimp -implicitDefEqProofs only [go_sem,seval]) rfl (by simp [rowsI]; omega) (by decide) (rowsI_all _) rfl ?_
    intro k2 hp2 hkk hA hfr
    have hK:hpC (updC H2 (q2+15+15+0) (some (O.rows 1 [] false))) hp2 k=H2 k:=by rw [hfr k (by omega) (by omega),updC_at,if_neg (by omega)]
    have e0:updC H2 (q2+15+15+0) (some (O.rows 1 [] false))=hpC H2 [(q2+15+15+0,O.rows 1 [] false)]:=by rw [hpC_cons,hpC_nil]
    rw [hh2,e0] at hK
    rw [e0,List.nil_append] at hA
    clear hfr
    generalize hpC (hpC H2 [(q2+15+15+0,O.rows 1 [] false)]) hp2=H3 at hA hK ⊢
    clear e0
    rw [List.nil_append]
    have z1:(k2=q2+15+15+9)=False:=eq_false (by omega)
    have z2:((rowsI (out.take j)).length<=(rowsI (out.take j)).length)=True:=eq_true (Nat.le_refl _)
    have z3:List.take (rowsI (out.take j)).length (rowsI (out.take j))=rowsI (out.take j):=List.take_of_length_le (Nat.le_refl _)
    simp -dsimp -implicitDefEqProofs only [go_sem,seval,z1,z2,z3,e1,e2,e3,h4,h5,hv,hx,hA]
    refine putA_appU (a:=rowsI (out.take j)) (by simp -dsimp -implicitDefEqProofs only [go_sem,seval,z1,hA]) rfl (by simp [rowsI]; omega) (by decide) (by rfl) (rowsI_all _) ?_
    intro k3 hp3 hkk3 hB hfr
    have hK2:hpC (updC H3 (q2+15+15+9) (some (O.rows 1 [[.t (ti x)]] false))) hp3 k=H3 k:=by rw [hfr k (by omega) (by omega),updC_at,if_neg (by omega)]
    have e0:updC H3 (q2+15+15+9) (some (O.rows 1 [[.t (ti x)]] false))=hpC H3 [(q2+15+15+9,O.rows 1 [[.t (ti x)]] false)]:=by rw [hpC_cons,hpC_nil]
    rw [hK,e0] at hK2
    rw [e0] at hB
    clear hfr
    generalize hpC (hpC H3 [(q2+15+15+9,O.rows 1 [[.t (ti x)]] false)]) hp3=H4 at hB hK2 ⊢
    clear e0 hA hK
    have hab:rowsI (out.take j)++[[.t (ti x)]]=rowsI (out.take j++[x]):=by simp [rowsI]
    rw [hab] at hB ⊢
    have f1:((out.length:Int)<=(out.length:Int))=True:=eq_true (Int.le_refl _)
    have f2:((out.length:Int)-(j:Int)).toNat=out.length-j:=by omega
    have f3:((rowsI (out.take j++[x])).length<=(rowsI (out.take j++[x])).length)=True:=eq_true (Nat.le_refl _)
    have f4:List.take (rowsI (out.take j++[x])).length (rowsI (out.take j++[x]))=rowsI (out.take j++[x]):=List.take_of_length_le (Nat.le_refl _)
    have f5:(j+(out.length-j)<=(rowsI out).length)=True:=eq_true (by rw [rowsI_len]; omega)
    have f6:List.take (out.length-j) (List.drop j (rowsI out))=rowsI (out.drop j):=by rw [List.take_of_length_le (by simp [rowsI])]; simp [rowsI]
    simp -dsimp -implicitDefEqProofs only [go_sem,seval,e1,e2,e3,f1,f2,f3,f4,f5,f6,h4,h5,hv,hx,hB,hK2]
    refine putA_appU hB rfl (by simp [rowsI]; omega) (by decide) (rowsI_all _) (rowsI_all _) ?_
    intro k4 hp4 hk4 hC hfr
    clear hfr
    generalize hpC H4 hp4=H5 at hC ⊢
    have hcd:rowsI (out.take j++[x])++rowsI (out.drop j)=rowsI (insM out x):=by rw [show insM out x=out.take j++[x]++out.drop j by unfold insM; rw [<- hpos,List.getElem?_eq_none (by omega),if_neg (by intro h; cases h)]]; simp [rowsI]
    rw [hcd] at hC ⊢
    simp -dsimp -implicitDefEqProofs only [go_sem,seval,h4,hw]
    show _/\_
    refine ⟨by omega,by simp -dsimp -implicitDefEqProofs only [go_sem,seval], ?_⟩
    rw [hsucc]
    exact .inr ⟨k4,by simp -dsimp -implicitDefEqProofs only [go_sem,seval] <;> rfl,by simp only [addC_eq]; simp; try omega,hC⟩
 ·have:i=l.length:=by omega
  subst this
  rw [insL_eq] at hown
  have hre:=hown.reify (ints_norm _)
  have v5:=hown.resVal
  simp only [Rg.resVal] at v5
  simp -dsimp -implicitDefEqProofs only [go_sem,seval,v1,v5]
  exact hre
end Rg
end
section
set_option maxRecDepth 100000
namespace Rg
open Go
theorem flag7_den (b:Bool):Den Γ G 248 [vb b]=some (.t (.str (bs (flagT b)))):=by
 (refine den_ofY Γ248 rfl ?_; dsimp only [f248])
 cases b <;> simp -dsimp -implicitDefEqProofs only [go_sem,seval,flagT] <;> rfl
theorem formula_den (e:Expr):Den Γ G 250 [(.agg [.t (ti (e).op), .t (ti (e).w), .t (ti (e).n), .t (.sl ((e).kids.map (Expr.enc)))])]=some (.t (.str (bs (relyT e)))):=by
 (refine den_ofY Γ250 rfl ?_; dsimp only [f250])
 have h1:=absentR_den e
 have h2:=textR_den e
 cases h:e.absent
 ·rw [h] at h1
  simp -dsimp -implicitDefEqProofs only [go_sem,seval,h1,h2,relyT,h]
 ·rw [h] at h1
  simp -dsimp -implicitDefEqProofs only [go_sem,seval,h1,relyT,h]
theorem number_pos (u:Nat) (hu:u<2^62):Den Γ G 249 [vi u]=some (.t (.str (bs (num u)))):=by
 (refine den_ofY Γ249 rfl ?_; dsimp only [f249])
 have hneg:decide ((u:Int)<0)=false:=by simp
 simp -dsimp -implicitDefEqProofs only [go_sem,seval,hneg]
 refine loopYH 268431384 (Go.Lib.nDigits u) (fun i f h x => ∃ (v:Nat) (s:List UInt8),(f 4).v=vi v/\(f 3).v = .t (.str (bs s))/\v<2^62/\(s=[]->v=u/\i=0)/\Go.Lib.decDigits u=(if v=0/\s≠[] then [] else Go.Lib.decDigits v)++s /\
  i+(if v=0/\s≠[] then 0 else Go.Lib.nDigits v)=Go.Lib.nDigits u) rfl ⟨u,[],by simp -dsimp -implicitDefEqProofs only [go_sem,seval],by simp -dsimp -implicitDefEqProofs only [go_sem,seval],hu,fun _=>⟨rfl,rfl⟩,by simp,by simp⟩ ?_
 rintro i f u1 H q bq hi ⟨v,s,h4,h3,hv,hs,hd,hn⟩
 have hbl : ∀ t:List UInt8,((bs t).toList==(bs []).toList)=decide (t=[]):=by
  intro t
  rw [Go.Lib.toList_data,Go.Lib.toList_data,bs_list,bs_list]
  cases t <;> rfl
 by_cases hc:v=0/\s≠[]
 ·have hd1:decide ((v:Int)>0)=false:=by simp; omega
  have hs1:decide (s=[])=false:=by simpa using hc.2
  rw [if_pos hc,List.nil_append] at hd
  have hnum:num (u:Int)=s:=by rw [show num (u:Int)=Go.Lib.decDigits u from Go.Lib.itoa_nonneg u,hd]
  simp -dsimp -implicitDefEqProofs only [go_sem,seval,h4,h3,hd1,hbl,hs1,hnum]
 ·have hmod:(v:Int).tmod 10=((v % 10:Nat):Int):=by rw [Int.tmod_eq_emod_of_nonneg (by omega)]; omega
  have hdiv:(v:Int).tdiv 10=((v / 10:Nat):Int):=by rw [Int.tdiv_eq_ediv_of_nonneg (by omega)]; omega
  have hw1:IntKind.i64.wrap (48+((v % 10:Nat):Int))=((48+v % 10:Nat):Int):=by rw [wrap64 (by omega)]; omega
  have hw2:IntKind.u8.wrap ((48+v % 10:Nat):Int)=((48+v % 10:Nat):Int):=by
   have h10:v % 10<10:=Nat.mod_lt _ (by omega)
   generalize v % 10=d at h10
   have:d=0\/d=1\/d=2\/d=3\/d=4\/d=5\/d=6\/d=7\/d=8\/d=9:=by omega
   rcases this with rfl | rfl | rfl | rfl | rfl | rfl | rfl | rfl | rfl | rfl <;> rfl
  have hby:bytesOf [[.t (.int .u8 ((48+v % 10:Nat):Int))]]=some [UInt8.ofNat (48+v % 10)]:=by
   simp only [bytesOf,Int.toNat_natCast]; rw [if_pos (by omega)]; rfl
  have hdw:IntKind.i64.wrap ((v / 10:Nat):Int)=((v / 10:Nat):Int):=wrap64 (by omega)
  have hsl:s.length<=20:=by
   have h1:=congrArg List.length hd
   rw [Go.Lib.decDigits_length,List.length_append] at h1
   have h2:=Go.Lib.nDigits_le20 u (by omega)
   omega
  have hle:((((⟨#[UInt8.ofNat (48+v % 10)]⟩:ByteArray).size+s.length:Nat):Int)<=1099511627776)=True:=eq_true (by
   have:(⟨#[UInt8.ofNat (48+v % 10)]⟩:ByteArray).size=1:=rfl
   rw [this]; omega)
  have hle' : ((((#[UInt8.ofNat (48+v % 10)]:Array UInt8).size+s.length:Nat):Int)<=1099511627776)=True:=eq_true (by
   have:(#[UInt8.ofNat (48+v % 10)]:Array UInt8).size=1:=rfl
   rw [this]; omega)
  have hap:(⟨[UInt8.ofNat (48+v % 10)].toArray⟩:ByteArray)++bs s=bs (UInt8.ofNat (48+v % 10)::s):=by
   have:=bs_app [UInt8.ofNat (48+v % 10)] s; exact this
  rw [if_neg hc] at hd hn
  have hfin:i<Go.Lib.nDigits u/\v / 10<2^62/\(UInt8.ofNat (48+v % 10)::s=[]->v / 10=u/\i+1=0) /\
   Go.Lib.decDigits u=(if v / 10=0/\UInt8.ofNat (48+v % 10)::s≠[] then [] else Go.Lib.decDigits (v / 10))++UInt8.ofNat (48+v % 10)::s/\i+1+(if v / 10=0/\UInt8.ofNat (48+v % 10)::s≠[] then 0 else Go.Lib.nDigits (v / 10))=Go.Lib.nDigits u:=by
   have hnp:=Go.Lib.nDigits_pos v
   refine ⟨by omega,by omega,fun h=>absurd h (by simp), ?_, ?_⟩
   ·by_cases h10:v<10
    ·rw [if_pos ⟨by omega,by simp⟩,hd,Go.Lib.decDigits_one h10,show v % 10=v by omega]; rfl
    ·rw [if_neg (by rintro ⟨h,_⟩; omega),hd]
     conv=>lhs; rw [Go.Lib.decDigits,dif_neg h10]
     simp
   ·by_cases h10:v<10
    ·rw [if_pos ⟨by omega,by simp⟩]; rw [Go.Lib.nDigits_small h10] at hn; omega
    ·rw [if_neg (by rintro ⟨h,_⟩; omega)]; rw [Go.Lib.nDigits_big h10] at hn; omega
  by_cases hp:v=0
  ·have hs0:s=[]:=by
    cases s with
    | nil=>rfl
    | cons a r=>exact absurd ⟨hp,by simp⟩ hc
   have hd1:decide ((v:Int)>0)=false:=by simp; omega
   have hs1:decide (s=[])=true:=by simpa using hs0
   simp -dsimp -implicitDefEqProofs only [go_sem,seval,h4,h3,hd1,hbl,hs1,hmod,hdiv,hw1,hw2,hby,hdw,hap,hle,hle']
   obtain ⟨hlt,hrest⟩:=hfin
   show _/\_
   exact ⟨hlt,v / 10,UInt8.ofNat (48+v % 10)::s,by simp -dsimp -implicitDefEqProofs only [go_sem,seval,hdw],by simp -dsimp -implicitDefEqProofs only [go_sem,seval],hrest⟩
  ·have hd1:decide ((v:Int)>0)=true:=by simp; omega
   simp -dsimp -implicitDefEqProofs only [go_sem,seval,h4,h3,hd1,hmod,hdiv,hw1,hw2,hby,hdw,hap,hle,hle']
   obtain ⟨hlt,hrest⟩:=hfin
   show _/\_
   exact ⟨hlt,v / 10,UInt8.ofNat (48+v % 10)::s,by simp -dsimp -implicitDefEqProofs only [go_sem,seval,hdw],by simp -dsimp -implicitDefEqProofs only [go_sem,seval],hrest⟩
theorem number_den (z:Int) (hz : -4611686018427387904<z/\z<4611686018427387904):Den Γ G 249 [vi z]=some (.t (.str (bs (num z)))):=by
 by_cases h:z<0
 ·obtain ⟨u,rfl⟩ : ∃ u:Nat,z = -(u:Int):=⟨z.natAbs,by omega⟩
  (refine den_ofY Γ249 rfl ?_; dsimp only [f249])
  have h1:=number_pos u (by omega)
  have hneg:decide (-(u:Int)<0)=true:=by simpa using h
  have hw:IntKind.i64.wrap (0 - -(u:Int))=u:=by rw [wrap64 (by omega)]; omega
  have hn:num (-(u:Int))=45::num (u:Int):=by rw [show num (u:Int)=Go.Lib.decDigits u from Go.Lib.itoa_nonneg u]; exact Go.Lib.itoa_neg u (by omega)
  have hl:=num_len (u:Int) (by omega)
  have hle:(((1+(num (u:Int)).length:Nat):Int)<=1099511627776)=True:=eq_true (by omega)
  simp -dsimp -implicitDefEqProofs only [go_sem,seval,hneg,hw,h1,hle,hn]
 ·obtain ⟨u,rfl⟩ : ∃ u:Nat,z=(u:Int):=⟨z.toNat,by omega⟩
  exact number_pos u (by omega)
def numsT (l:List Int):List UInt8:=l.flatMap fun z=>32::num z
theorem numsT_len : ∀ l:List Int,(∀ z∈l,inI z)->(numsT l).length<=22*l.length
 | [],_=>by simp [numsT]
 | z::r,h=>by
  have h1:=numsT_len r fun y hy=>h y (List.mem_cons_of_mem _ hy)
  have h2:=num_len z (h z List.mem_cons_self)
  have e:numsT (z::r)=(32::num z)++numsT r:=rfl
  rw [e,List.length_append,List.length_cons,List.length_cons]; omega
theorem numsT_succ {l:List Int} {i:Nat} {z:Int} (h:l[i]? = some z):numsT (l.take (i+1))=numsT (l.take i)++(32::num z):=by
 unfold numsT; rw [take_succ_of h,List.flatMap_append]; simp
theorem numbers_den (l:List Int) (hl:l.length<2^20) (hz : ∀ z∈l, -4611686018427387904<z/\z<4611686018427387904):Den Γ G 247 [.t (ints l)]=some (.t (.str (bs (numsT l)))):=by
 (refine den_ofY Γ247 rfl ?_; dsimp only [f247])
 simp -dsimp -implicitDefEqProofs only [go_sem,seval]
 refine loopY 524280 l.length (fun i f=>(f 4).v=vi i/\(f 3).v = .t (.str (bs (numsT (l.take i))))) rfl rfl ⟨by simp -dsimp -implicitDefEqProofs only [go_sem,seval],by simp -dsimp -implicitDefEqProofs only [go_sem,seval]; rfl⟩ ?_
 rintro i f u kk bq hi ⟨h4,h3⟩
 have hw:=wrapS i (by omega)
 simp -dsimp -implicitDefEqProofs only [go_sem,seval,h4,h3]
 refine csplit (fun h => ?_) (fun h => ?_) <;> (try rw [h]) <;> (try simp only [bools] at h) <;> (try simp -dsimp -implicitDefEqProofs only [go_sem,seval,h4,h3])
 ·have hil:i<l.length:=by omega
  have hx:l[i]? = some l[i]:=List.getElem?_eq_getElem hil
  have hm:l[i]∈l:=List.getElem_mem hil
  generalize l[i]=z at hx hm
  have h1:=number_den z (hz z hm)
  have hlen:(num z).length<=21:=num_len z (by have:=hz z hm; omega)
  have htl:=numsT_len (l.take i) (fun z hz' => by have:=hz z (List.mem_of_mem_take hz'); exact ⟨by omega,by omega⟩)
  have htl2:(l.take i).length<=i:=by simp; omega
  have hsucc:=numsT_succ hx
  have hle1:((((numsT (l.take i)).length+1:Nat):Int)<=1099511627776)=True:=eq_true (by omega)
  have hle2:((((numsT (l.take i)++[32]).length+(num z).length:Nat):Int)<=1099511627776)=True:=eq_true (by simp only [List.length_append,List.length_cons,List.length_nil]; omega)
  have hcat:numsT (l.take i)++[32]++num z=numsT (l.take (i+1)):=by rw [hsucc]; simp
  simp -dsimp -implicitDefEqProofs only [go_sem,seval,h4,h3,hx,h1,hle1,hle2,hcat,hw]
  show _/\_
  exact ⟨hil,by simp -dsimp -implicitDefEqProofs only [go_sem,seval],by simp -dsimp -implicitDefEqProofs only [go_sem,seval]⟩
 ·have:i=l.length:=by omega
  subst this
  rw [List.take_length]
end Rg
end
section
set_option maxRecDepth 100000
namespace Rg
open Go
theorem denS_res {r:V} {h:Nat->Option O} {vs:List V} {K:V->(Nat->Option O)->Prop} {w:WK K} (hk : ∀ H,K r H):denS (some r) false h vs K w:=by
 unfold denS
 simp only [Bool.false_eq_true,false_implies,true_and]
 split
 ·exact hk _
 ·exact hk _
theorem writes7_den (s:Step) (hs:s.set.length<2^20):Den Γ G 223 [(.agg [.t (ti (s).kind), .t (ti (s).fr), .t (ti (s).to), .t (ti ((s).guard).op), .t (ti ((s).guard).w), .t (ti ((s).guard).n), .t (.sl (((s).guard).kids.map Expr.enc)), .t (.sl ((s).set.map Assign.enc)), .t (tb (s).release), .t (ti (s).target), .t (ti (s).module)])]=some (.t (ints (writesM s))):=by
 (refine den_ofY Γ223 rfl ?_; dsimp only [f223])
 simp -dsimp -implicitDefEqProofs only [go_sem,seval]
 refine loopYH 2097144 s.set.length (fun i f h x=>(f 4).v=vi i/\OwnB h x (f 3).v 1 (rowsI ((s.set.take i).map Assign.cell))) rfl ⟨by simp -dsimp -implicitDefEqProofs only [go_sem,seval], .inl ⟨by simp -dsimp -implicitDefEqProofs only [go_sem,seval],rfl⟩⟩ ?_
 rintro i f u H q bq hi ⟨h4,hown⟩
 have hw:=wrapS i (by omega)
 have v1:=hown.valOf
 have ht:toT1 H (f 3).v=some (.t (ints ((s.set.take i).map Assign.cell))):=hown.toT1
 have hd:=sorted7_den ((s.set.take i).map Assign.cell) (by simp; omega)
 simp -dsimp -implicitDefEqProofs only [go_sem,seval,h4,v1]
 refine csplit (fun h => ?_) (fun h => ?_) <;> (try rw [h]) <;> (try simp only [bools] at h) <;> (try simp -dsimp -implicitDefEqProofs only [go_sem,seval,h4,v1, ↓ht,hd])
 ·have hil:i<s.set.length:=by omega
  obtain ⟨a,ha⟩ : ∃ a,s.set[i]? = some a:=⟨_,List.getElem?_eq_getElem hil⟩
  have v2:=hown.r2
  have v3:=hown.r3
  have v4:=hown.r4
  have hml:((s.set.take i).map Assign.cell).length<=i:=by simp; omega
  simp -dsimp -implicitDefEqProofs only [go_sem,seval,h4,ha,v1,v2,v3,v4]
  refine putA_app1 (hown.upd (by omega) _) (by omega) (by rw [rowsI_len]; omega) (by decide) rfl (rowsI_all _) ?_
  intro v hp hO hoffs hkeep
  have w1:=hO.valOf
  rw [<- rowsI_app] at hO
  have hsucc:(s.set.take i).map Assign.cell++[a.cell]=(s.set.take (i+1)).map Assign.cell:=by rw [take_succ_of ha]; simp
  rw [hsucc] at hO
  simp -dsimp -implicitDefEqProofs only [go_sem,seval,w1,h4]
  exact ⟨hil,by simp -dsimp -implicitDefEqProofs only [go_sem,seval,hw],by simp -dsimp -implicitDefEqProofs only [go_sem,seval]; exact hO.le (by omega)⟩
 ·have:i=s.set.length:=by omega
  subst this
  rw [List.take_length]
  refine denS_res fun H' => ?_
  unfold writesM
  simp -dsimp -implicitDefEqProofs only [go_sem,seval]
theorem reads7_den (s:Step) (hs:s.set.length<2^20):Den Γ G 222 [(.agg [.t (ti (s).kind), .t (ti (s).fr), .t (ti (s).to), .t (ti ((s).guard).op), .t (ti ((s).guard).w), .t (ti ((s).guard).n), .t (.sl (((s).guard).kids.map Expr.enc)), .t (.sl ((s).set.map Assign.enc)), .t (tb (s).release), .t (ti (s).target), .t (ti (s).module)])]=some (.t (ints (readsM s))):=by
 (refine den_ofY Γ222 rfl ?_; dsimp only [f222])
 have h1:=supportR_den s.guard
 simp -dsimp -implicitDefEqProofs only [go_sem,seval,h1]
 rw [rowsI_eq]
 have hsl:=sup_len 2 s.guard
 refine putA_appU (a:=[]) (by simp -dsimp -implicitDefEqProofs only [go_sem,seval]) rfl (by simp [rowsI]; omega) (by decide) (rowsI_all _) rfl ?_
 intro k2 hp2 hk2 hA hfr
 clear hfr
 have e0:updC (fun x=>none) 10 (some (O.rows 1 [] false))=hpC (fun x=>none) [(10,O.rows 1 [] false)]:=by rw [hpC_cons,hpC_nil]
 rw [e0,List.nil_append] at hA
 generalize hpC (hpC (fun x=>none) [(10,O.rows 1 [] false)]) hp2=H0 at hA ⊢
 clear e0
 rw [List.nil_append]
 have hr0:readsL s 0=s.guard.sup 2:=by simp [readsL]
 have hown0:OwnB H0 14 (.ms k2 0 (rowsI (s.guard.sup 2)).length) 1 (rowsI (readsL s 0)):=by rw [hr0]; exact .inr ⟨k2,rfl,by omega,hA⟩
 simp -dsimp -implicitDefEqProofs only [go_sem,seval]
 refine loopYH 137438822640 s.set.length (fun i f h x=>(f 5).v=vi i/\OwnB h x (f 4).v 1 (rowsI (readsL s i))) rfl ⟨by simp -dsimp -implicitDefEqProofs only [go_sem,seval],by (try simp -dsimp -implicitDefEqProofs only [go_sem,seval]); exact hown0.le (by first | decide | (simp only [addC_eq]; simp) | simp)⟩ ?_
 clear hown0 hA
 rintro i f u H q bq hi ⟨h5,hown⟩
 have hw:=wrapS i (by omega)
 have v1:=hown.valOf
 have hrl:=readsL_len s i
 have ht:toT1 H (f 4).v=some (.t (ints (readsL s i))):=hown.toT1
 have hd:=sorted7_den (readsL s i) (by omega)
 simp -dsimp -implicitDefEqProofs only [go_sem,seval,h5,v1]
 refine csplit (fun h => ?_) (fun h => ?_) <;> (try rw [h]) <;> (try simp only [bools] at h) <;> (try simp -dsimp -implicitDefEqProofs only [go_sem,seval,h5,v1, ↓ht,hd])
 ·have hil:i<s.set.length:=by omega
  obtain ⟨a,ha⟩ : ∃ a,s.set[i]? = some a:=⟨_,List.getElem?_eq_getElem hil⟩
  have v2:=hown.rowsS
  have h2:=supportR_den a.to
  have hal:=sup_len 2 a.to
  simp -dsimp -implicitDefEqProofs only [go_sem,seval,h5,ha,v1,v2,h2]
  rw [rowsI_eq]
  refine putA_app hown (by omega) (by rw [rowsI_len,rowsI_len]; omega) (by decide) (rowsI_all _) (rowsI_all _) ?_
  intro v hp hO _ _
  have w1:=hO.valOf
  have happ:rowsI (readsL s i)++rowsI (a.to.sup 2)=rowsI (readsL s (i+1)):=by rw [readsL_succ ha]; simp [rowsI]
  rw [happ] at hO
  simp -dsimp -implicitDefEqProofs only [go_sem,seval,w1,h5]
  exact ⟨hil,by simp -dsimp -implicitDefEqProofs only [go_sem,seval,hw],by simp -dsimp -implicitDefEqProofs only [go_sem,seval]; exact hO.le (by omega)⟩
 ·have:i=s.set.length:=by omega
  subst this
  refine denS_res fun H' => ?_
  have hrr:readsL s s.set.length=s.guard.sup 2++s.set.flatMap fun a=>a.to.sup 2:=by unfold readsL; rw [List.take_length]
  rw [hrr]
  unfold readsM
  simp -dsimp -implicitDefEqProofs only [go_sem,seval]
end Rg
end
section
set_option maxRecDepth 100000
namespace Rg
open Go
theorem cat_ok (n:Nat) (h:n<=1099511627776):((n:Int)<=1099511627776)=True:=eq_true (by omega)
theorem line_cons (w:List UInt8) (r:List (List UInt8)):lineT (w::r)=w++r.flatMap (fun v=>32::v)++[10]:=by
 unfold lineT
 rw [Go.Lib.join_cons]
 unfold Go.Lib.joinTail
 rw [List.flatMap_def]; rfl
def sml (z:Int):Prop := -1000<z/\z<1000
theorem sml_inI {z:Int} (h:sml z):inI z:=by unfold sml at h; unfold inI; omega
theorem sml_num {z:Int} (h:sml z):(num z).length<=21:=num_len z (by unfold sml at h; omega)
theorem number_sml {z:Int} (h:sml z):Den Γ G 249 [vi z]=some (.t (.str (bs (num z)))):=number_den z (by unfold sml at h; omega)
theorem numbers_sml {l:List Int} (hl:l.length<=1000) (h : ∀ z∈l,sml z):Den Γ G 247 [.t (ints l)]=some (.t (.str (bs (numsT l)))):=numbers_den l (by omega) fun z hz=>by have:=h z hz; unfold sml at this; omega
structure Thr7 (x:Thread):Prop extends ThrOk x where
 pts:(x.asserts.length:Int)=x.points
 sm : ∀ z∈x.modules,sml z
 ab : ∀ e∈x.asserts,e.absent=false
 ss : ∀ s∈x.steps,sml s.kind/\sml s.fr/\sml s.to/\sml s.target/\sml s.module/\(∀ a∈s.set,sml a.cell/\a.to.absent=false)/\s.guard.absent=false
 ls : ∀ l∈x.loops,sml l.head/\(∀ z∈l.body,sml z)/\l.variant.absent=false
theorem line_len {ws:List (List UInt8)} {K:Nat} (h:(ws.map List.length).sum+ws.length<=K):(lineT ws).length<=K+1:=by
 unfold lineT
 have:=join_len ws
 rw [List.length_append]; simp only [List.length_cons,List.length_nil]; omega
theorem rely_text {e:Expr} (h:e.absent=false):relyT e=e.text:=by unfold relyT; rw [h]; rfl
def setX (a:Assign):List UInt8:=[32]++num a.cell++[32]++a.to.text
theorem setX_eq (l:List Assign):l.flatMap setX=(l.flatMap setW).flatMap (fun v=>32::v):=by
 induction l with
 | nil=>rfl
 | cons a r ih=>simp only [List.flatMap_cons,ih,List.flatMap_append]; simp [setX,setW]
theorem stepT_eq (s:Step):stepT s=[115,116,101,112]++numsT [s.kind,s.fr,s.to]++[32]++s.guard.text++[32]++flagT s.release++numsT [s.target,s.module]++s.set.flatMap setX++[10]:=by
 unfold stepT stepW
 rw [List.cons_append,line_cons,setX_eq]
 simp [numsT]
theorem loopX_eq (l:Loop):loopX l=[108,111,111,112,32]++num l.head++[32]++l.variant.text++numsT l.body++[10]:=by
 unfold loopX loopW
 rw [List.cons_append,line_cons]
 simp [numsT,List.flatMap_map]
set_option maxHeartbeats 2000000 in
theorem thread7_den (x:Thread) (hx:Thr7 x):Den Γ G 251 [(.agg [.t (.str (x).name), .t (ti (x).points), .t (.sl ((x).asserts.map Expr.enc)), .t (ints (x).modules), .t (.sl ((x).steps.map Step.enc)), .t (.sl ((x).loops.map Loop.enc)), .t (tb (x).asleep)])]=some (.t (.str (bs (threadT x)))):=by
 (refine den_ofY Γ251 rfl ?_; dsimp only [f251])
 have hn:=label_len hx.name
 have hf:=flag7_den x.asleep
 have hfl:=flagT_len x.asleep
 have hname:x.name=bs (byt x.name):=(bs_of _).symm
 rw [hname]
 simp -dsimp -implicitDefEqProofs (disch:=first | omega | (simp only [List.length_append,List.length_cons,List.length_nil]; omega) | simp only [go_sem,seval]) only [go_sem,seval,cat_ok,hf]
 have hB:(lineT (headW x)).length<=1001:=line_len (head_sum x hx.name)
 have hBe : [116,104,114,101,97,100,32]++byt x.name++[32]++flagT x.asleep++[10]=lineT (headW x):=by
  unfold headW; rw [line_cons]; simp
 have hpl : ∀ i,(((x.modules.zip x.asserts).take i).flatMap pointT).length<=2000000:=by
  intro i
  have h1:=flatMap_len pointT ((x.modules.zip x.asserts).take i) 40001 fun q hq=>by
   have hq' := List.mem_of_mem_take hq
   exact line_len (point_sum q (hx.mi q.1 (List.of_mem_zip hq').1))
  have h2:((x.modules.zip x.asserts).take i).length<=48:=by have:=hx.al; simp; omega
  omega
 have hal:=hx.al
 have hpt:=hx.pts
 have hml:=hx.ml
 have hzl:(x.modules.zip x.asserts).length=x.asserts.length:=by rw [List.length_zip,hx.ml]; simp
 refine loopY 8796092497944 x.asserts.length (fun i f=>(f 4).v=vi i/\(f 3).v = .t (.str (bs (lineT (headW x)++((x.modules.zip x.asserts).take i).flatMap pointT)))) rfl rfl ⟨by simp -dsimp -implicitDefEqProofs only [go_sem,seval],by simp -dsimp -implicitDefEqProofs only [go_sem,seval,List.take_zero,List.flatMap_nil,List.append_nil]; rw [<- hBe]; rfl⟩ ?_
 rintro i f u kk bq hi ⟨h4,h3⟩
 have hw:=wrapS i (by omega)
 have hlt:decide ((i:Int)<x.points)=decide (i<x.asserts.length):=by congr 1; apply propext; omega
 simp -dsimp -implicitDefEqProofs only [go_sem,seval,h4,h3,hlt]
 refine csplit (fun h => ?_) (fun h => ?_) <;> (try rw [h]) <;> (try simp only [bools] at h) <;> (try simp -dsimp -implicitDefEqProofs only [go_sem,seval,h4,h3])
 ·have hil:i<x.asserts.length:=by omega
  have hil2:i<x.modules.length:=by omega
  have he:x.asserts[i]? = some x.asserts[i]:=List.getElem?_eq_getElem hil
  have hm:x.modules[i]? = some x.modules[i]:=List.getElem?_eq_getElem hil2
  generalize x.asserts[i]=e at he
  generalize x.modules[i]=m at hm
  have hz:(x.modules.zip x.asserts)[i]? = some (m,e):=by rw [List.getElem?_zip_eq_some]; exact ⟨hm,he⟩
  have hnum:=number_sml (hx.sm m (List.mem_of_getElem? hm))
  have hfo:=formula_den e
  rw [rely_text (hx.ab e (List.mem_of_getElem? he))] at hfo
  have hsucc:=flatMap_succ pointT hz
  have l1:=text_len e
  have l2:=num_len m (hx.mi m (List.mem_of_getElem? hm))
  have l3:=hpl i
  simp -dsimp -implicitDefEqProofs (disch:=first | omega | (simp only [List.length_append,List.length_cons,List.length_nil]; omega) | simp only [go_sem,seval]) only [go_sem,seval,h4,h3,he,hm,hnum,hfo,cat_ok,hw]
  show _/\_
  refine ⟨hil,by simp -dsimp -implicitDefEqProofs only [go_sem,seval], ?_⟩
  simp -dsimp -implicitDefEqProofs only [go_sem,seval]
  have hpt1:pointT (m,e)=[112,111,105,110,116,32]++num m++[32]++e.text++[10]:=by unfold pointT pointW; rw [line_cons]; simp
  rw [hsucc,hpt1]
  simp only [List.append_assoc]
 ·have:i=x.asserts.length:=by omega
  subst this
  have hP1:=hpl x.asserts.length
  obtain ⟨P,hP⟩ : ∃ P,P=lineT (headW x)++(x.modules.zip x.asserts).flatMap pointT:=⟨_,rfl⟩
  rw [<- hzl,List.take_length] at h3 hP1
  rw [<- hP] at h3
  have hPl:P.length<=2100000:=by rw [hP,List.length_append]; omega
  have hsl : ∀ i,((x.steps.take i).flatMap stepT).length<=700000000:=by
   intro i
   have h1:=flatMap_len stepT (x.steps.take i) 10000001 fun s hs=>line_len (step_sum (hx.st s (List.mem_of_mem_take hs)))
   have h2:(x.steps.take i).length<=64:=by have:=hx.sl; simp; omega
   omega
  have hsl2:=hx.sl
  clear h4 hw hlt hi
  refine loopYH 2596148429267413814256452071588072 x.steps.length (fun i f h y=>(f 5).v=vi i/\(f 3).v = .t (.str (bs (P++(x.steps.take i).flatMap stepT)))) rfl ⟨by simp -dsimp -implicitDefEqProofs only [go_sem,seval],by simp -dsimp -implicitDefEqProofs only [go_sem,seval,h3,List.take_zero,List.flatMap_nil,List.append_nil]⟩ ?_
  rintro i f u H q bq hi ⟨h5,h3⟩
  have hw:=wrapS i (by omega)
  simp -dsimp -implicitDefEqProofs only [go_sem,seval,h5,h3]
  refine csplit (fun h => ?_) (fun h => ?_) <;> (try rw [h]) <;> (try simp only [bools] at h) <;> (try simp -dsimp -implicitDefEqProofs only [go_sem,seval,h5,h3])
  ·have hil:i<x.steps.length:=by omega
   have hs:x.steps[i]? = some x.steps[i]:=List.getElem?_eq_getElem hil
   have hsm:=List.getElem_mem hil
   generalize x.steps[i]=s at hs hsm
   obtain ⟨s1,s2,s3,s4,s5,s6,s7⟩:=hx.ss s hsm
   have hsett:=(hx.st s hsm).2.2.2.2.2.2
   have n1:Den Γ G 247 [.t (.sl [[ti s.kind],[ti s.fr],[ti s.to]])]=some (.t (.str (bs (numsT [s.kind,s.fr,s.to])))):=numbers_sml (l:=[s.kind,s.fr,s.to]) (by simp) (by simp only [List.mem_cons,List.not_mem_nil,or_false]; rintro z (rfl | rfl | rfl) <;> assumption)
   have n2:Den Γ G 247 [.t (.sl [[ti s.target],[ti s.module]])]=some (.t (.str (bs (numsT [s.target,s.module])))):=numbers_sml (l:=[s.target,s.module]) (by simp) (by simp only [List.mem_cons,List.not_mem_nil,or_false]; rintro z (rfl | rfl) <;> assumption)
   have hfo:=formula_den s.guard
   rw [rely_text s7] at hfo
   have hfl:=flag7_den s.release
   have hfl2:=flagT_len s.release
   have l1:=text_len s.guard
   have l2:(numsT [s.kind,s.fr,s.to]).length<=66:=numsT_len _ (by simp [sml_inI s1,sml_inI s2,sml_inI s3])
   have l3:(numsT [s.target,s.module]).length<=44:=numsT_len _ (by simp [sml_inI s4,sml_inI s5])
   have l4:=hsl i
   simp -dsimp -implicitDefEqProofs (disch:=first | omega | (simp only [List.length_append,List.length_cons,List.length_nil]; omega) | simp only [go_sem,seval]) only [go_sem,seval,h5,h3,hs,n1,n2,hfo,hfl,cat_ok]
   obtain ⟨S,hS⟩ : ∃ S,S=P++(x.steps.take i).flatMap stepT++[115,116,101,112]++numsT [s.kind,s.fr,s.to]++[32]++s.guard.text++[32]++flagT s.release++numsT [s.target,s.module]:=⟨_,rfl⟩
   rw [<- hS]
   have hSl:S.length<=800000000:=by rw [hS]; simp only [List.length_append,List.length_cons,List.length_nil]; omega
   have hsx : ∀ j,((s.set.take j).flatMap setX).length<=40*36100:=by
    intro j
    have h1:=flatMap_len setX (s.set.take j) 36100 fun a ha=>by
     have ha' := List.mem_of_mem_take ha
     have h1:=sml_num (s6 a ha').1
     have h2:=text_len a.to
     simp only [setX,List.length_append,List.length_cons,List.length_nil]; omega
    have h2:(s.set.take j).length<=40:=by simp; omega
    omega
   have hsucc:=flatMap_succ stepT hs
   refine loopYH 649037097645446896649278643503240 s.set.length (fun j f h y=>(f 7).v=vi j/\(f 3).v = .t (.str (bs (S++(s.set.take j).flatMap setX)))) rfl ⟨by simp -dsimp -implicitDefEqProofs only [go_sem,seval],by simp -dsimp -implicitDefEqProofs only [go_sem,seval,List.take_zero,List.flatMap_nil,List.append_nil]⟩ ?_
   rintro j f2 u2 H2 q2 b2 hj ⟨h7,h3⟩
   have hwj:=wrapS j (by omega)
   simp -dsimp -implicitDefEqProofs only [go_sem,seval,h7,h3]
   refine csplit (fun h => ?_) (fun h => ?_) <;> (try rw [h]) <;> (try simp only [bools] at h) <;> (try simp -dsimp -implicitDefEqProofs only [go_sem,seval,h7,h3])
   ·have hjl:j<s.set.length:=by omega
    have ha:s.set[j]? = some s.set[j]:=List.getElem?_eq_getElem hjl
    have ham:=List.getElem_mem hjl
    generalize s.set[j]=a at ha ham
    have n3:=number_sml (s6 a ham).1
    have l5:=sml_num (s6 a ham).1
    have hfo:=formula_den a.to
    rw [rely_text (s6 a ham).2] at hfo
    have l6:=text_len a.to
    have l7:=hsx j
    have hsucc2:=flatMap_succ setX ha
    simp -dsimp -implicitDefEqProofs (disch:=first | omega | (simp only [List.length_append,List.length_cons,List.length_nil]; omega) | simp only [go_sem,seval]) only [go_sem,seval,h7,h3,ha,n3,hfo,cat_ok,hwj]
    show _/\_
    refine ⟨hjl,by simp -dsimp -implicitDefEqProofs only [go_sem,seval], ?_⟩
    simp -dsimp -implicitDefEqProofs only [go_sem,seval]
    rw [hsucc2]
    simp only [setX,List.append_assoc]
   ·have:j=s.set.length:=by omega
    subst this
    have l7:=hsx s.set.length
    rw [List.take_length] at h3 l7 ⊢
    simp -dsimp -implicitDefEqProofs (disch:=first | omega | (simp only [List.length_append,List.length_cons,List.length_nil]; omega) | simp only [go_sem,seval]) only [go_sem,seval,h5,h3,hw,cat_ok]
    show _/\_
    refine ⟨hil,by simp -dsimp -implicitDefEqProofs only [go_sem,seval], ?_⟩
    simp -dsimp -implicitDefEqProofs only [go_sem,seval]
    rw [hsucc,stepT_eq,hS]
    simp only [List.append_assoc]
  ·have:i=x.steps.length:=by omega
   subst this
   have l4:=hsl x.steps.length
   rw [List.take_length] at h3 l4
   obtain ⟨R,hR⟩ : ∃ R,R=P++x.steps.flatMap stepT:=⟨_,rfl⟩
   rw [<- hR] at h3
   have hRl:R.length<=800000000:=by rw [hR,List.length_append]; omega
   have hll:=hx.ll
   have hlx : ∀ i,((x.loops.take i).flatMap loopX).length<=8*40000:=by
    intro i
    have h1:=flatMap_len loopX (x.loops.take i) 40000 fun l hl=>by
     have hl' := List.mem_of_mem_take hl
     have h1:=sml_num (hx.ls l hl').1
     have h2:=text_len l.variant
     have h3:=numsT_len l.body fun z hz=>sml_inI ((hx.ls l hl').2.1 z hz)
     have h4:=(hx.lp l hl').2.2
     rw [loopX_eq]
     simp only [List.length_append,List.length_cons,List.length_nil]; omega
    have h2:(x.loops.take i).length<=8:=by simp; omega
    omega
   clear h5 hw hi
   refine loopYH 696898284857933543905577381755013132452616 x.loops.length (fun i f h y=>(f 8).v=vi i/\(f 3).v = .t (.str (bs (R++(x.loops.take i).flatMap loopX)))) rfl ⟨by simp -dsimp -implicitDefEqProofs only [go_sem,seval],by simp -dsimp -implicitDefEqProofs only [go_sem,seval,h3,List.take_zero,List.flatMap_nil,List.append_nil]⟩ ?_
   rintro i f u H q bq hi ⟨h8,h3⟩
   have hw:=wrapS i (by omega)
   simp -dsimp -implicitDefEqProofs only [go_sem,seval,h8,h3]
   refine csplit (fun h => ?_) (fun h => ?_) <;> (try rw [h]) <;> (try simp only [bools] at h) <;> (try simp -dsimp -implicitDefEqProofs only [go_sem,seval,h8,h3])
   ·have hil:i<x.loops.length:=by omega
    have hl:x.loops[i]? = some x.loops[i]:=List.getElem?_eq_getElem hil
    have hlm:=List.getElem_mem hil
    generalize x.loops[i]=l at hl hlm
    obtain ⟨s1,s2,s3⟩:=hx.ls l hlm
    have hbl:=(hx.lp l hlm).2.2
    have n1:=number_sml s1
    have n2:=numbers_sml (by omega) s2
    have hfo:=formula_den l.variant
    rw [rely_text s3] at hfo
    have l1:=text_len l.variant
    have l2:=sml_num s1
    have l3:=numsT_len l.body fun z hz=>sml_inI (s2 z hz)
    have l4:=hlx i
    have hsucc:=flatMap_succ loopX hl
    simp -dsimp -implicitDefEqProofs (disch:=first | omega | (simp only [List.length_append,List.length_cons,List.length_nil]; omega) | simp only [go_sem,seval]) only [go_sem,seval,h8,h3,hl,n1,n2,hfo,cat_ok,hw]
    show _/\_
    refine ⟨hil,by simp -dsimp -implicitDefEqProofs only [go_sem,seval], ?_⟩
    simp -dsimp -implicitDefEqProofs only [go_sem,seval]
    rw [hsucc,loopX_eq]
    simp only [List.append_assoc]
   ·have:i=x.loops.length:=by omega
    subst this
    rw [List.take_length,hR,hP]
    unfold threadT
    simp only [List.append_assoc]
end Rg
end
