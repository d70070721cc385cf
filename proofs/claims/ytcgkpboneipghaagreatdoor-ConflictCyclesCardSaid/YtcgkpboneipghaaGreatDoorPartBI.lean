/- Part of the proof of the laws of the package relyguardlaw30: an abstract machine for the program's functions, what they compute, and that the machine is the program's. No condition. (H47b) -/
import Derived.Test.YtcgkpboneipghaaGreatDoorPartBH
set_option linter.unusedSimpArgs false
set_option linter.unusedVariables false
section
namespace Rg
open Go
inductive Path (l:List Step) (i:Nat):Nat->Prop
 | one {j:Nat} {x y:Step} (hx:l[i]? = some x) (hy:l[j]? = some y) (h:x.to=y.fr):Path l i j
 | snoc {k j:Nat} {x y:Step} (hp:Path l i k) (hx:l[k]? = some x) (hy:l[j]? = some y) (h:x.to=y.fr):Path l i j
theorem Path.trans {l:List Step} {i k j:Nat} (h1:Path l i k) (h2:Path l k j):Path l i j:=by
 induction h2 with
 | one hx hy h=>exact .snoc h1 hx hy h
 | snoc _ hx hy h ih=>exact .snoc ih hx hy h
theorem maskS_bit (f:Step->Bool) (l:List Step) (j:Nat):(maskS f l).testBit j=true <-> ∃ y,l[j]? = some y/\f y=true:=by
 unfold maskS
 rw [fold_bits (fun q:Step×Nat=>f q.1) (fun q=>q.2)]
 simp only [Nat.zero_testBit,Bool.false_or,List.any_eq_true,Bool.and_eq_true,decide_eq_true_eq]
 constructor
 ·rintro ⟨⟨y,k⟩,h1,h2,rfl⟩
  rw [List.mem_zipIdx_iff_getElem?] at h1
  exact ⟨y,h1,h2⟩
 ·rintro ⟨y,h1,h2⟩
  exact ⟨(y,j),by rw [List.mem_zipIdx_iff_getElem?]; exact h1,h2,rfl⟩
theorem reachN_path (inner:Step->Bool) (l:List Step) : ∀ (n i j:Nat),((reachN inner l n).getD i 0).testBit j=true->Path l i j:=by
 have key : ∀ (qs:List (Step×Nat)) (r:List Nat),(∀ i j,(r.getD i 0).testBit j=true->Path l i j) -> ∀ i j,((qs.foldl (fun r q=>if inner q.1 then reachS q.2 r else r) r).getD i 0).testBit j=true->Path l i j:=by
  intro qs
  induction qs with
  | nil=>intro r h; exact h
  | cons q qs ih =>
    intro r h
    rw [List.foldl_cons]
    refine ih _ ?_
    split
    ·intro i j hj
     unfold reachS at hj
     rw [List.getD_eq_getElem?_getD,List.getElem?_map] at hj
     cases hr:r[i]? with
     | none=>rw [hr] at hj; simp at hj
     | some m =>
       have e:r.getD i 0=m:=by rw [List.getD_eq_getElem?_getD,hr]; rfl
       rw [hr] at hj
       simp only [Option.map_some,Option.getD_some] at hj
       split at hj
       ·rename_i hk
        rw [Nat.testBit_or,Bool.or_eq_true] at hj
        rcases hj with hj | hj
        ·exact h i j (by rw [e]; exact hj)
        ·exact (h i q.2 (by rw [e]; exact hk)).trans (h q.2 j hj)
       ·exact h i j (by rw [e]; exact hj)
    ·exact h
 intro n
 refine key _ _ ?_
 intro i j hj
 unfold reach0 at hj
 rw [List.getD_eq_getElem?_getD,List.getElem?_map] at hj
 cases hx:l[i]? with
 | none=>rw [hx] at hj; simp at hj
 | some x =>
   rw [hx] at hj
   simp only [Option.map_some,Option.getD_some] at hj
   obtain ⟨y,hy,h⟩:=(maskS_bit _ _ _).1 hj
   exact .one hx hy (of_decide_eq_true h)
theorem reachM_path {inner:Step->Bool} {l:List Step} {i j:Nat} (h:((reachM inner l).getD i 0).testBit j=true):Path l i j:=by
 refine reachN_path inner l l.length i j ?_
 unfold reachM at h
 rw [List.getD_eq_getElem?_getD,List.getElem?_append] at h
 split at h
 ·rw [List.getD_eq_getElem?_getD]; exact h
 ·rename_i hlt
  rw [List.getElem?_replicate] at h
  split at h
  ·simp at h
  ·simp at h
def BefOk (p:Prog) (a b:Acc):Prop:=a.th≠b.th/\(((p.stepAt a.th a.st).kind=6/\((p.stepAt a.th a.st).target=b.th\/(p.stepAt b.th b.st).kind=7/\(p.stepAt a.th a.st).target=(p.stepAt b.th b.st).target)) \/
 ((p.stepAt b.th b.st).kind=7/\(p.stepAt b.th b.st).target=a.th)\/(a.ce=b.ce/\a.ce<p.cells.length/\(a.wr=true\/b.wr=true)))
theorem acc_step {p:Prog} (h:p.ok) {a:Acc} (ha:a∈accsM p):(a.ce<p.cells.length/\(p.stepAt a.th a.st).kind≠6/\(p.stepAt a.th a.st).kind≠7) \/
 (((p.stepAt a.th a.st).kind=6\/(p.stepAt a.th a.st).kind=7)/\a.wr=true/\0<=(p.stepAt a.th a.st).target/\(p.stepAt a.th a.st).target<p.threads.length/\(a.ce:Int)=p.cells.length+(p.stepAt a.th a.st).target):=by
 obtain ⟨x,s,h1,h2,h3⟩:=mem_accs.1 ha
 rw [stepAt_of h1 h2]
 obtain ⟨_,_,h4 | h4⟩:=mem_accsS.1 h3
 ·right
  obtain ⟨hk,hw,hc⟩:=h4
  have ht:=(ok_iff.1 h).threads _ x h1
  rw [threadErr_iff] at ht
  obtain ⟨hb,_,hset,hko⟩:=stepErr_iff.1 (ht.2.2.2.2.2.1 _ s h2)
  have hj:joinOk p a.th s=true:=by
   unfold kindOk at hko
   rcases hk with hk | hk <;> rw [hk] at hko <;> simp at hko
   ·exact hko.1
   ·exact hko
  simp only [joinOk,inR,Bool.and_eq_true,decide_eq_true_eq] at hj
  exact ⟨hk,hw,hj.2.1,hj.2.2,by omega⟩
 ·left
  obtain ⟨hk,c,hc,he,_⟩:=h4
  rw [mem_ofM,ofThread_iff] at hc
  obtain ⟨h0,y,hy,_⟩:=hc
  have:=(List.getElem?_eq_some_iff.1 hy).1
  exact ⟨by omega,fun h=>hk (.inl h),fun h=>hk (.inr h)⟩
theorem cls_at {p:Prog} (h:p.ok) {a:Acc} (ha:a∈accsM p):clsM p a / (2*(p.cells.length+p.threads.length))=a.th/\clsM p a % (2*(p.cells.length+p.threads.length)) =
 2*a.ce+(if (a.wr&&decide (a.ce<p.cells.length))||decide ((p.stepAt a.th a.st).kind=7) then 1 else 0):=by
 refine ⟨(clsM_bounds h ha).1, ?_⟩
 have h2:=(ok_acc h ha).2.2
 unfold clsM
 generalize hb:(if (a.wr&&decide (a.ce<p.cells.length))||decide ((p.stepAt a.th a.st).kind=7) then 1 else 0)=b
 have hb1:b<=1:=by rw [<- hb]; split <;> omega
 rw [Nat.add_assoc,Nat.mul_comm,Nat.mul_add_mod,Nat.mod_eq_of_lt (by omega)]
theorem prec_bef {p:Prog} (h:p.ok) {a b:Acc} (ha:a∈accsM p) (hb:b∈accsM p) (hne:a.th≠b.th) (hp:precM p.cells.length p.threads.length (clsM p a) (clsM p b)=true):BefOk p a b:=by
 refine ⟨hne, ?_⟩
 obtain ⟨a1,a2⟩:=cls_at h ha
 obtain ⟨b1,b2⟩:=cls_at h hb
 unfold precM at hp
 rw [a1,a2,b1,b2] at hp
 have ka:=acc_step h ha
 have kb:=acc_step h hb
 generalize hx:(if (a.wr&&decide (a.ce<p.cells.length))||decide ((p.stepAt a.th a.st).kind=7) then 1 else 0)=x at hp
 generalize hy:(if (b.wr&&decide (b.ce<p.cells.length))||decide ((p.stepAt b.th b.st).kind=7) then 1 else 0)=y at hp
 simp only [precX,Bool.or_eq_true,Bool.and_eq_true,decide_eq_true_eq] at hp
 have hx1:x=1<->(a.wr=true/\a.ce<p.cells.length)\/(p.stepAt a.th a.st).kind=7:=by
  rw [<- hx]; simp only [Bool.or_eq_true,Bool.and_eq_true,decide_eq_true_eq]
  split
  ·rename_i hc; exact ⟨fun _=>hc,fun _=>rfl⟩
  ·rename_i hc; exact ⟨fun h=>absurd h (by decide),fun h=>absurd h hc⟩
 have hy1:y=1<->(b.wr=true/\b.ce<p.cells.length)\/(p.stepAt b.th b.st).kind=7:=by
  rw [<- hy]; simp only [Bool.or_eq_true,Bool.and_eq_true,decide_eq_true_eq]
  split
  ·rename_i hc; exact ⟨fun _=>hc,fun _=>rfl⟩
  ·rename_i hc; exact ⟨fun h=>absurd h (by decide),fun h=>absurd h hc⟩
 have hxb:x<=1:=by rw [<- hx]; split <;> omega
 have hyb:y<=1:=by rw [<- hy]; split <;> omega
 clear hx hy a1 a2 b1 b2
 have e1 : ∀ z:Nat,((z:Int).tmod 2=(z % 2:Nat)):=fun z=>by rw [Int.tmod_eq_emod_of_nonneg (by omega)]; omega
 have e2 : ∀ z:Nat,((z:Int).tdiv 2=(z / 2:Nat)):=fun z=>by rw [Int.tdiv_eq_ediv_of_nonneg (by omega)]; omega
 rcases hp with ⟨⟨⟨h1,h2⟩,h3⟩,h4⟩ | (⟨⟨h1,h2⟩,h3⟩ | ⟨⟨h1,h2⟩,h3⟩) | ⟨⟨⟨h1,h2⟩,h3,h4⟩,h5⟩
 ·refine .inr (.inr ?_)
  rw [e2,e2] at h3
  rw [e1,e1] at h4
  refine ⟨by omega,by omega, ?_⟩
  rcases h4 with h4 | h4
  ·left
   rcases hx1.1 (by omega) with k | k
   ·exact k.1
   ·omega
  ·right
   rcases hy1.1 (by omega) with k | k
   ·exact k.1
   ·omega
 ·left
  rw [e1] at h2
  have h0 : ¬ x=1:=by omega
  have k7:(p.stepAt a.th a.st).kind≠7:=fun k=>h0 (hx1.2 (.inr k))
  rw [Int.tdiv_eq_ediv_of_nonneg (by omega)] at h3
  refine ⟨by omega, .inl (by omega)⟩
 ·right; left
  rw [e1] at h2
  rw [Int.tdiv_eq_ediv_of_nonneg (by omega)] at h3
  have:y=1:=by omega
  rcases hy1.1 this with k | k
  ·omega
  ·exact ⟨k,by omega⟩
 ·left
  rw [e1] at h2 h4
  rw [e2,e2] at h5
  have h0 : ¬ x=1:=by omega
  have k7:(p.stepAt a.th a.st).kind≠7:=fun k=>h0 (hx1.2 (.inr k))
  have:y=1:=by omega
  rcases hy1.1 this with k | k
  ·omega
  ·exact ⟨by omega, .inr ⟨k,by omega⟩⟩
def Trail (p:Prog) (gl:Acc):Acc->Bool->Nat->List Acc->Prop
 | prev,_,_,[]=>BefOk p prev gl
 | prev,op,m,c::l=>c∈accsM p/\((op=true/\c.th=prev.th/\c≠prev/\(c.st=prev.st\/Path ((p.threads.getD c.th default).steps) prev.st c.st)/\m.testBit c.th=true/\Trail p gl c false m l) \/
    (m.testBit c.th=false/\BefOk p prev c/\Trail p gl c true (m ||| 1 <<< c.th) l))
theorem nodup_flat {α β:Type} {f:α->List β} : ∀ {l:List α},(∀ a∈l,(f a).Nodup)->l.Pairwise (fun a b => ∀ z,z∈f a->z∈f b->False)->(l.flatMap f).Nodup
 | [],_,_=>by simp
 | x::l,h1,h2=>by
   rw [List.flatMap_cons,List.nodup_append]
   rw [List.pairwise_cons] at h2
   refine ⟨h1 x (by simp),nodup_flat (fun a ha=>h1 a (by simp [ha])) h2.2,fun a ha b hb e => ?_⟩
   obtain ⟨y,hy,hb⟩:=List.mem_flatMap.1 hb
   subst e
   exact h2.1 y hy a ha hb
theorem accsM_nodup {p:Prog}:(accsM p).Nodup:=by
 have hS : ∀ t i s,(accsS p t i s).Nodup:=by
  intro t i s
  unfold accsS
  split
  ·simp
  ·unfold accsC
   have hof:(ofM p (-1)).Pairwise (fun a b=>a.toNat≠b.toNat):=by
    unfold ofM idxM idxN
    rw [List.take_length]
    refine List.Pairwise.map _ ?_ (List.Pairwise.filter (R:=fun (a b:Cell×Nat)=>a.2≠b.2) _ (List.pairwise_iff_getElem.2 fun i j hi hj hij => ?_))
    ·intro a b h; simpa using h
    ·simp; omega
   refine nodup_flat (fun c _ => ?_) (hof.imp fun {a b} hab => ?_)
   ·split <;> split <;> simp
   ·intro z h1 h2
    simp only [List.mem_append] at h1 h2
    have : ∀ c:Int,((z∈if c∈readsM s then [(⟨t,i,c.toNat,false⟩:Acc)] else [])\/(z∈if c∈writesM s then [(⟨t,i,c.toNat,true⟩:Acc)] else []))->z.ce=c.toNat:=by
     rintro c (h | h)
     ·split at h
      ·rw [List.mem_singleton] at h; rw [h]
      ·cases h
     ·split at h
      ·rw [List.mem_singleton] at h; rw [h]
      ·cases h
    exact hab ((this a h1).symm.trans (this b h2))
 have hT : ∀ t l i,(accsT p t l i).Nodup:=by
  intro t l i
  unfold accsT
  refine nodup_flat (fun q _=>hS _ _ _) (List.pairwise_iff_getElem.2 fun a b ha hb hab z h1 h2 => ?_)
  simp only [List.getElem_zipIdx] at h1 h2
  have e1:=(mem_accsS.1 h1).2.1
  have e2:=(mem_accsS.1 h2).2.1
  omega
 unfold accsM accsN
 refine nodup_flat (fun q _=>hT _ _ _) (List.pairwise_iff_getElem.2 fun a b ha hb hab z h1 h2 => ?_)
 simp only [List.getElem_zipIdx] at h1 h2
 obtain ⟨k1,s1,_,_,g1⟩:=mem_accsT.1 h1
 obtain ⟨k2,s2,_,_,g2⟩:=mem_accsT.1 h2
 have e1:=(mem_accsS.1 g1).1
 have e2:=(mem_accsS.1 g2).1
 omega
theorem ac_inj {p:Prog} {model:Int} {i j:Nat} (hi:i<(accsM p).length) (hj:j<(accsM p).length) (h:(grM p model).ac i=(grM p model).ac j):i=j:=by
 simp only [Gr.ac,grM,List.getD_eq_getElem?_getD,List.getElem?_eq_getElem hi,List.getElem?_eq_getElem hj,Option.getD_some] at h
 have hp:=List.pairwise_iff_getElem.1 (accsM_nodup (p:=p))
 rcases Nat.lt_trichotomy i j with h1 | h1 | h1
 ·exact absurd h (hp _ _ hi hj h1)
 ·exact h1
 ·exact absurd h.symm (hp _ _ hj hi h1)
theorem grM_cl {p:Prog} {model:Int} {i:Nat} (hi:i<(accsM p).length):(grM p model).cl i=clsM p ((grM p model).ac i):=by
 simp only [Gr.cl,Gr.ac,grM,List.getD_eq_getElem?_getD,List.getElem?_map,List.getElem?_eq_getElem hi]
 rfl
theorem ld_path {p:Prog} {model:Int} {t i j:Nat} (h:((grM p model).ldAt t i).testBit j=true):Path ((p.threads.getD t default).steps) i j:=by
 unfold Gr.ldAt grM at h
 simp only at h
 rw [List.getD_eq_getElem?_getD,List.getD_eq_getElem?_getD,List.getElem?_map] at h
 cases hx:p.threads[t]? with
 | none=>rw [hx] at h; simp at h
 | some x =>
   rw [hx] at h
   simp only [Option.map_some,Option.getD_some] at h
   rw [List.getD_eq_getElem?_getD,hx]
   exact reachM_path (by rw [List.getD_eq_getElem?_getD]; exact h)
theorem follow_trail {p:Prog} (h:p.ok) (model:Int) {ga:Nat} (hga:ga<(accsM p).length) : ∀ (r last m:Nat) (op:Bool) (l:List Acc),last<(accsM p).length->m.testBit ((grM p model).ac last).th=true ->
 m.testBit ((grM p model).ac ga).th=true->(r=0\/op=true->((grM p model).ac last).th≠((grM p model).ac ga).th) ->
 (grM p model).can ((grM p model).cl ga) r last m op->(grM p model).follow ((grM p model).cl ga) r last m op=some l->Trail p ((grM p model).ac ga) ((grM p model).ac last) op m l
 | 0,last,m,op,l,hl,hm,hmg,hne,hc,hf=>by
   rw [Gr.follow] at hf; cases hf
   have hp:(grM p model).ends 0 ((grM p model).cl ga) ((grM p model).cl last) m=true:=by
    unfold Gr.can at hc
    cases op
    ·simpa using hc
    ·simp only [if_true,Gr.begins,Bool.or_eq_true,Bool.and_eq_true,decide_eq_true_eq] at hc
     rcases hc with hc | ⟨hc,_⟩
     ·exact hc
     ·omega
   rw [Gr.ends,grM_cl hl,grM_cl hga] at hp
   exact prec_bef h (Gr.ac_mem (g:=grM p model) hl) (Gr.ac_mem (g:=grM p model) hga) (hne (.inl rfl)) hp
 | r+1,last,m,op,l,hl,hm,hmg,hne,hc,hf=>by
   have hg:=grM_ok h model
   rw [Gr.follow] at hf
   split at hf
   ·cases hf
   ·rename_i c hfc
    have hcl:=List.mem_range.1 (List.mem_of_find?_eq_some hfc)
    have hcn:=hg.next_can hl hm hcl (List.find?_some hfc)
    have hmem:=Gr.ac_mem (g:=grM p model) hcl
    split at hcn
    ·rename_i hv
     rw [if_pos hv] at hf
     obtain ⟨l',hl',rfl⟩:=Option.map_eq_some_iff.1 hf
     obtain ⟨h1,h2,h3,h4⟩:=hcn
     obtain ⟨p1,p2,p3⟩:=Gr.partner_iff.1 h2
     refine ⟨hmem, .inl ⟨h1,p2.symm,fun e=>p1 (ac_inj (model:=model) hl hcl e.symm), ?_,h4, ?_⟩⟩
     ·rcases p3 with p3 | p3
      ·exact .inl p3.symm
      ·exact .inr (by rw [<- p2]; exact ld_path p3)
     ·exact follow_trail h model hga r c m false l' hcl h4 hmg (fun _=>by rw [<- p2]; exact hne (.inr h1)) h3 hl'
    ·rename_i hv
     rw [if_neg hv] at hf
     obtain ⟨l',hl',rfl⟩:=Option.map_eq_some_iff.1 hf
     obtain ⟨h1,h2,h3,h4⟩:=hcn
     have hd:((grM p model).ac c).th≠((grM p model).ac ga).th:=fun e=>by rw [e,hmg] at h1; cases h1
     refine ⟨hmem, .inr ⟨h1, ?_, ?_⟩⟩
     ·rw [grM_cl hl,grM_cl hcl] at h2
      exact prec_bef h (Gr.ac_mem (g:=grM p model) hl) hmem (fun e=>by rw [<- e,hm] at h1; cases h1) h2
     ·exact follow_trail h model hga r c _ true l' hcl h4 (by rw [Gr.or_bit,hmg]; rfl) (fun _=>hd) h3 hl'
structure CycOk (p:Prog) (model:Int) (l:List Acc):Prop where
 ok : ∃ a b c r,l=a::b::c::r/\a∈accsM p/\b∈accsM p/\a.th=b.th/\(a,b)∈delaysM p model/\Trail p a b false (1 <<< b.th) (c::r)
theorem cycle_ok {p:Prog} {model:Int} {l:List Acc} (h:cycleM p model=some l):validB p=true/\robM p model=false/\CycOk p model l/\l.length<=2*p.threads.length+2:=by
 unfold cycleM at h
 split at h
 ·rename_i hv
  have hok:p.ok:=by simpa [validB] using hv
  have hg:=grM_ok hok model
  unfold Gr.cycle at h
  cases hs:(grM p model).shortest with
  | none=>rw [hs] at h; cases h
  | some r =>
    rw [hs] at h
    obtain ⟨h1,h2,h3⟩:=Gr.shortest_at hs
    have h:(grM p model).first r=some l:=h
    have hlen:=Gr.first_len h
    have hnt:(grM p model).nt=p.threads.length:=rfl
    refine ⟨hv,by unfold robM; rw [hs]; simp,⟨?_⟩,by omega⟩
    unfold Gr.first at h
    split at h
    ·cases h
    ·rename_i x hx
     obtain ⟨l',hl',rfl⟩:=Option.map_eq_some_iff.1 h
     have hxm:=List.mem_of_find?_eq_some hx
     have hxs:=List.find?_some hx
     simp only [List.mem_flatMap,List.mem_range,List.mem_map] at hxm
     obtain ⟨x1,k1,x2,k2,rfl⟩:=hxm
     simp only [Gr.starts,Bool.and_eq_true] at hxs
     obtain ⟨hd,he⟩:=hxs
     have hdi:=Gr.delay_iff.1 hd
     have hT:=follow_trail hok model k1 r x2 (1 <<< ((grM p model).ac x2).th) false l' k2 (by rw [bit_one]; simp) (by rw [bit_one,hdi.1]; simp) (fun h=>h.elim (fun h=>by omega) (fun h=>by cases h)) (by simpa [Gr.can] using he) hl'
     have hll:=Gr.follow_len _ _ _ _ _ _ hl'
     match l',hll with
     | c::r',_ =>
       refine ⟨_,_,c,r',rfl,Gr.ac_mem (g:=grM p model) k1,Gr.ac_mem (g:=grM p model) k2,hdi.1, ?_,hT⟩
       unfold delaysM
       rw [if_pos hv]
       exact Gr.mem_delays.2 ⟨x1,x2,k1,k2,hd,rfl⟩
     | [],h0=>simp at h0; omega
 ·cases h
theorem cycle_no {p:Prog} {model:Int} (h:cycleM p model=none):robM p model=validB p:=by
 unfold cycleM at h
 unfold robM
 cases hv:validB p
 ·rfl
 ·rw [hv,if_pos rfl] at h
  have hok:p.ok:=by simpa [validB] using hv
  rw [(Gr.cycle_none (grM_ok hok model) (grM_cls hok model)).1 h]; rfl
end Rg
end
