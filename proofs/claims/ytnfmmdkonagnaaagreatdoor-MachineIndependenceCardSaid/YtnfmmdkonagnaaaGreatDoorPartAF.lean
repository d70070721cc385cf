/- Part of the proof of the laws of the package relyguardlaw11: an abstract machine for the program's functions, what they compute, and that the machine is the program's. No condition. (RgP RgQ RgR) -/
import Derived.Test.YtnfmmdkonagnaaaGreatDoorPartAE
section
/- Rg, part P: values as trees; objects that are frozen. No condition. -/
namespace Rg
open Go
def isRows (H : Nat → Option O) (k : Nat) : Prop := ∃ sz rs f, H k = some (.rows sz rs f)
section
variable {w : World} {A : Nat → Prop} {nm μ : Nat → Nat} {H : Nat → Option O}
theorem mem_reach_row {d k : Nat} {sz : Nat} {rs : List (List V)} {frz : Bool} (hk : H k = some (.rows sz rs frz)) {i j : Nat} {row : List V} {x : V} (h1 : rs[i]? = some row) (h2 : row[j]? = some x) {q : Nat} (hq : q ∈ reach H d x) :
    q ∈ (match H k with | some (.rows _ rs _) => rs.flatMap (fun (row : List V) => row.flatMap (reach H d)) | _ => ([] : List Nat)) := by
  rw [hk]
  exact List.mem_flatMap.2 ⟨row, List.mem_of_getElem? h1, List.mem_flatMap.2 ⟨x, List.mem_of_getElem? h2, hq⟩⟩
theorem toT_rep (hH : ∀ k o, H k = some o → HObj w A nm μ H (μ k) o) : ∀ (d : Nat) (x : V) (t : T) (v : Value), toT H d x = some t → RepC w A nm μ H v x →
    RepT w (fun r => A r ∨ ∃ k ∈ reach H d x, isRows H k ∧ μ k = r) nm v t := by
  intro d
  induction d with
  | zero =>
    intro x t v ht hr
    cases x with
    | t y =>
      simp only [toT, Option.some.injEq] at ht; subst ht
      exact (RepV.t_inv (w := w) hr.toV).norm.mono (fun _ _ => rfl) (fun _ h => .inl h)
    | _ => simp [toT] at ht
  | succ d ih =>
    intro x t v ht hr
    cases x with
    | t y =>
      simp only [toT, Option.some.injEq] at ht; subst ht
      exact (RepV.t_inv (w := w) hr.toV).norm.mono (fun _ _ => rfl) (fun _ h => .inl h)
    | ms k i len =>
      simp only [toT] at ht
      split at ht
      · rename_i sz rs frz hk
        simp only [Option.bind_eq_bind, Option.bind_eq_some_iff, Option.some.injEq] at ht
        obtain ⟨r, hrd, es, hes, rfl⟩ := ht
        obtain ⟨hl1, hl2⟩ := mapM_some hes
        cases hr with
        | ms _ _ _ cap sz' rs' frz' ad hk' hi' hc ha =>
          rw [hk] at hk'; cases hk'
          unfold rd at hrd
          rw [if_pos hi'] at hrd
          simp only [Option.some.injEq] at hrd; subst hrd
          have hlen : es.length = len := by rw [← hl1]; simp; omega
          rcases Nat.eq_zero_or_pos len with h0 | h0
          · subst h0
            have : es = [] := List.length_eq_zero_iff.1 hlen
            subst this
            exact .sl0 _ _
          · obtain ⟨rfl, e0, n0, hs0, hn0⟩ := ha.resolve_left (by omega)
            obtain ⟨cc, e1, z, h1, h2, h3, h4, h5⟩ := hH k _ hk
            subst hlen
            have hrow : ∀ (i' : Nat) (e : List T), es[i']? = some e → ∃ row, rs[i + i']? = some row ∧ row.length = e.length ∧ ∀ (j : Nat) (y : T), e[j]? = some y → ∃ x, row[j]? = some x ∧ toT H d x = some y := by
              intro i' e he
              obtain ⟨row, hrow, hm⟩ := hl2 i' e he
              obtain ⟨m1, m2⟩ := mapM_some hm
              rw [List.getElem?_take] at hrow
              split at hrow
              · rw [List.getElem?_drop] at hrow
                exact ⟨row, hrow, m1, m2⟩
              · simp at hrow
            have hcell : ∀ (i' : Nat) (e : List T) (j : Nat) (y : T), es[i']? = some e → e[j]? = some y → ∃ u x, w.cell? ⟨μ k, i * sz + i' * sz + j, none⟩ = some u ∧ RepC w A nm μ H u x ∧ toT H d x = some y ∧
                (∀ q ∈ reach H d x, q ∈ reach H (d + 1) (.ms k i es.length)) := by
              intro i' e j y he hj
              obtain ⟨row, g1, g2, g3⟩ := hrow i' e he
              obtain ⟨x, hx, ht⟩ := g3 j y hj
              obtain ⟨u, hu, hr⟩ := h5 _ row j x g1 hx
              refine ⟨u, x, ?_, hr, ht, fun q hq => ?_⟩
              · rw [Nat.add_mul] at hu
                simp [World.cell?, h1, hu]
              · simp only [reach]
                exact List.mem_cons_of_mem _ (mem_reach_row hk g1 hx hq)
            refine .sl (μ k) (i * sz) cap sz es (fun i' j => (w.cell? ⟨μ k, i * sz + i' * sz + j, none⟩).getD undef) h0 hc (.inr ⟨k, by simp [reach], ⟨_, _, _, hk⟩, rfl⟩) ?_ ?_ ?_
            · intro i' e he
              obtain ⟨row, g1, g2, g3⟩ := hrow i' e he
              rw [← g2]; exact h4 _ row g1
            · intro i' e j y he hj
              obtain ⟨u, x, hu, _⟩ := hcell i' e j y he hj
              rw [hu]; rfl
            · intro i' e j y he hj
              obtain ⟨u, x, hu, hr, ht, hq⟩ := hcell i' e j y he hj
              rw [hu]
              exact (ih x y u ht hr).mono (fun _ _ => rfl) (fun r h => h.elim .inl fun ⟨q, h1, h2⟩ => .inr ⟨q, hq q h1, h2⟩)
        | dms _ _ _ hk' => rw [hk] at hk'; cases hk'
      · simp at ht
    | mp k i off =>
      simp only [toT] at ht
      split at ht
      · rename_i sz rs frz hk
        simp only [Option.bind_eq_bind, Option.bind_eq_some_iff, Option.some.injEq] at ht
        obtain ⟨row, hrow, cs, hcs, rfl⟩ := ht
        obtain ⟨hl1, hl2⟩ := mapM_some hcs
        cases hr with
        | mp _ _ _ sz' rs' frz' hk' hi' =>
          rw [hk] at hk'; cases hk'
          obtain ⟨cc, e1, z, h1, h2, h3, h4, h5⟩ := hH k _ hk
          have hcell : ∀ (j : Nat) (y : T), cs[j]? = some y → ∃ u x, w.cell? ⟨μ k, i * sz + off + j, none⟩ = some u ∧ RepC w A nm μ H u x ∧ toT H d x = some y ∧
              (∀ q ∈ reach H d x, q ∈ reach H (d + 1) (.mp k i off)) := by
            intro j y hj
            obtain ⟨x, hx, ht⟩ := hl2 j y hj
            rw [List.getElem?_drop] at hx
            obtain ⟨u, hu, hr⟩ := h5 _ row _ x hrow hx
            refine ⟨u, x, ?_, hr, ht, fun q hq => ?_⟩
            · rw [Nat.add_assoc]
              simp [World.cell?, h1, hu]
            · simp only [reach]
              exact List.mem_cons_of_mem _ (mem_reach_row hk hrow hx hq)
          refine .ip (μ k) (i * sz + off) cs (fun j => (w.cell? ⟨μ k, i * sz + off + j, none⟩).getD undef) (.inr ⟨k, by simp [reach], ⟨_, _, _, hk⟩, rfl⟩) ?_ ?_
          · intro j y hj
            obtain ⟨u, x, hu, _⟩ := hcell j y hj
            rw [hu]; rfl
          · intro j y hj
            obtain ⟨u, x, hu, hr, ht, hq⟩ := hcell j y hj
            rw [hu]
            exact (ih x y u ht hr).mono (fun _ _ => rfl) (fun r h => h.elim .inl fun ⟨q, h1, h2⟩ => .inr ⟨q, hq q h1, h2⟩)
        | dmp _ _ _ hk' => rw [hk] at hk'; cases hk'
      · simp at ht
    | fn f a b =>
      simp only [toT, Option.bind_eq_bind, Option.bind_eq_some_iff, Option.some.injEq] at ht
      obtain ⟨a', ha', b', hb', rfl⟩ := ht
      obtain ⟨p1, p2⟩ := mapM_some ha'
      obtain ⟨q1, q2⟩ := mapM_some hb'
      cases hr with
      | fn _ _ _ va vb fa fb ha hb hva hra hvb hrb =>
        refine .fn f a' b' va vb fa fb (by omega) (by omega) ?_ ?_ ?_ ?_
        · intro j y hj; obtain ⟨x, hx, _⟩ := p2 j y hj; exact hva j x hx
        · intro j y hj
          obtain ⟨x, hx, ht⟩ := p2 j y hj
          refine (ih x y _ ht (hra j x hx)).mono (fun _ _ => rfl) (fun r h => h.elim .inl fun ⟨q, h1, h2⟩ => .inr ⟨q, ?_, h2⟩)
          simp only [reach]
          exact List.mem_append_left _ (List.mem_flatMap.2 ⟨x, List.mem_of_getElem? hx, h1⟩)
        · intro j y hj; obtain ⟨x, hx, _⟩ := q2 j y hj; exact hvb j x hx
        · intro j y hj
          obtain ⟨x, hx, ht⟩ := q2 j y hj
          refine (ih x y _ ht (hrb j x hx)).mono (fun _ _ => rfl) (fun r h => h.elim .inl fun ⟨q, h1, h2⟩ => .inr ⟨q, ?_, h2⟩)
          simp only [reach]
          exact List.mem_append_right _ (List.mem_flatMap.2 ⟨x, List.mem_of_getElem? hx, h1⟩)
    | mm k => simp [toT] at ht
    | agg cs => simp [toT] at ht
    | tup cs => simp [toT] at ht
    | undef => simp [toT] at ht
    | lb => simp [toT] at ht
theorem toT1_rep (hH : ∀ k o, H k = some o → HObj w A nm μ H (μ k) o) {x y : V} {v : Value} (ht : toT1 H x = some y) (hr : RepV w A nm μ H v x) (μ' : Nat → Nat) (H' : Nat → Option O) :
    RepV1 w (fun r => A r ∨ ∃ k ∈ reach1 H x, isRows H k ∧ μ k = r) nm μ' H' v y := by
  have key : ∀ {x : V} {t : T}, toT H 1000 x = some t → RepC w A nm μ H v x → RepT w (fun r => A r ∨ ∃ k ∈ reach H 1000 x, isRows H k ∧ μ k = r) nm v t := fun h1 h2 => toT_rep hH 1000 _ _ _ h1 h2
  cases x with
  | agg cs =>
    simp only [toT1, Option.map_eq_some_iff] at ht
    obtain ⟨ts, hts, rfl⟩ := ht
    obtain ⟨vs, rfl, hl⟩ := hr
    obtain ⟨p1, p2⟩ := mapM_some hts
    refine ⟨vs, rfl, by rw [hl.1]; simp [p1], fun i c hi => ?_⟩
    simp only [List.getElem?_map, Option.map_eq_some_iff] at hi
    obtain ⟨t, ht, rfl⟩ := hi
    obtain ⟨x, hx, hxt⟩ := p2 i t ht
    obtain ⟨u, hu, hur⟩ := hl.2 i x hx
    refine ⟨u, hu, .t ((toT_rep hH 1000 x t u hxt hur).mono (fun _ _ => rfl) (fun r h => h.elim .inl fun ⟨q, h1, h2⟩ => .inr ⟨q, ?_, h2⟩))⟩
    simp only [reach1]
    exact List.mem_flatMap.2 ⟨x, List.mem_of_getElem? hx, h1⟩
  | tup cs => simp [toT1, toT] at ht
  | undef => simp [toT1, toT] at ht
  | lb => simp [toT1, toT] at ht
  | t z =>
    simp only [toT1, Option.map_eq_some_iff] at ht
    obtain ⟨t, ht, rfl⟩ := ht
    exact RepC.t (key ht hr)
  | ms k i l =>
    simp only [toT1, Option.map_eq_some_iff] at ht
    obtain ⟨t, ht, rfl⟩ := ht
    exact RepC.t (key ht hr)
  | mp k i o =>
    simp only [toT1, Option.map_eq_some_iff] at ht
    obtain ⟨t, ht, rfl⟩ := ht
    exact RepC.t (key ht hr)
  | mm k => simp [toT1, toT] at ht
  | fn f a b =>
    simp only [toT1, Option.map_eq_some_iff] at ht
    obtain ⟨t, ht, rfl⟩ := ht
    exact RepC.t (key ht hr)
end
section
variable {N : Nam} {c : Ctx} {ns : Nat} {A : Nat → Prop} {μ lam : Nat → Nat} {s : St} {a : Act} {w : World}
/-- Objects that are frozen, one after the other. -/
theorem Rel.freezes (H0 : Nat → Option O) : ∀ (l : List Nat) (A : Nat → Prop) (s : St), Rel N c ns A μ lam s a w → (∀ k sz rs f, H0 k = some (.rows sz rs f) → ∃ f', s.heap k = some (.rows sz rs f')) →
    ∃ A', Rel N c ns A' μ lam { s with heap := hpUpd s.heap (freezes H0 l) } a w ∧ (∀ r, A r → A' r) ∧ (∀ k ∈ l, ∀ sz rs f, H0 k = some (.rows sz rs f) → A' (μ k))
  | [], A, s, R, _ => ⟨A, R, fun _ h => h, by simp⟩
  | k :: l, A, s, R, h0 => by
    by_cases hk : ∃ sz rs f, H0 k = some (.rows sz rs f)
    · obtain ⟨sz, rs, f, hk⟩ := hk
      obtain ⟨f', hk'⟩ := h0 k sz rs f hk
      have R1 := R.freeze hk'
      obtain ⟨A', R2, hsub, hin⟩ := Rel.freezes H0 l _ _ R1 (fun k1 sz1 rs1 f1 h1 => by
        by_cases e : k1 = k
        · subst e; rw [hk] at h1; cases h1; exact ⟨true, by simp⟩
        · obtain ⟨f2, h2⟩ := h0 k1 sz1 rs1 f1 h1
          exact ⟨f2, by simp only [upd_other _ _ e]; exact h2⟩)
      refine ⟨A', ?_, fun r h => hsub r (.inl h), fun k1 h1 sz1 rs1 f1 h2 => ?_⟩
      · have : Rg.freezes H0 (k :: l) = (k, .rows sz rs true) :: Rg.freezes H0 l := by simp [Rg.freezes, hk]
        rw [this]; exact R2
      · rcases List.mem_cons.1 h1 with rfl | h1
        · exact hsub _ (.inr rfl)
        · exact hin k1 h1 sz1 rs1 f1 h2
    · obtain ⟨A', R2, hsub, hin⟩ := Rel.freezes H0 l A s R h0
      refine ⟨A', ?_, hsub, fun k1 h1 sz1 rs1 f1 h2 => ?_⟩
      · have : Rg.freezes H0 (k :: l) = Rg.freezes H0 l := by
          simp only [Rg.freezes, List.filterMap_cons]
          split
          · rfl
          · rename_i x hx
            split at hx
            · rename_i sz rs f h; exact absurd ⟨sz, rs, f, h⟩ hk
            · simp at hx
        rw [this]; exact R2
      · rcases List.mem_cons.1 h1 with rfl | h1
        · exact absurd ⟨sz1, rs1, f1, h2⟩ hk
        · exact hin k1 h1 sz1 rs1 f1 h2
/-- Blocks that nothing stands for may be shown by trees from now on. -/
theorem Rel.growA (R : Rel N c ns A μ lam s a w) (B : Nat → Prop) (hl : ∀ r, B r → ∀ t, (s.loc t).isSome = true → lam t ≠ r) (hh : ∀ r, B r → ∀ k o, s.heap k = some o → o.live = true → μ k ≠ r)
    (hx : ∀ r, B r → c.X r ∨ c.w0.heap.size ≤ r) (hlt : ∀ r, B r → r < w.heap.size) : Rel N c ns (fun r => A r ∨ B r) μ lam s a w := by
  have E : Evo w A μ s.heap w (fun r => A r ∨ B r) μ s.heap := ⟨fun _ _ => rfl, fun _ h => .inl h, fun _ o h => ⟨o, h, O.le_refl o, fun _ => rfl⟩, fun _ _ h => h⟩
  refine { R with env := fun t => (R.env t).evo E, loc := ?_, heap := ?_, aH := ?_, aL := ?_, alt := ?_, afz := fun k sz rs h => .inl (R.afz k sz rs h), glob := ?_, csub := ?_, canew := ?_ }
  · intro t cs h
    obtain ⟨h1, h2⟩ := R.loc t cs h
    exact ⟨h1, h2.evo E rfl⟩
  · intro k o h; exact (R.heap k o h).evo E rfl
  · rintro r (h | h) hm
    · exact R.aH r h hm
    · obtain ⟨k, o, h1, h2, h3, h4⟩ := hm
      exact hh r h k o h1 h3 h4
  · rintro r (h | h) hm
    · exact R.aL r h hm
    · obtain ⟨t, h1, h2⟩ := hm
      exact hl r h t h1 h2
  · rintro r (h | h)
    · exact R.alt r h
    · exact hlt r h
  · intro g j x h
    obtain ⟨h1, v, hv, hr⟩ := R.glob g j x h
    exact ⟨.inl h1, v, hv, hr.mono E.blk E.sub⟩
  · intro r h; exact .inl (R.csub r h)
  · rintro r (h | h)
    · exact R.canew r h
    · exact .inr (hx r h)
theorem RepC.scalar {w w' : World} {A A' : Nat → Prop} {nm μ μ' : Nat → Nat} {H H' : Nat → Option O} {v : Value} {x : V} (h : RepC w A nm μ H v x) (hx : x.scalar1 = true) : RepC w' A' nm μ' H' v x := by
  cases x <;> simp [V.scalar1] at hx
  exact .t ((RepV.t_inv h.toV).scalar hx)
theorem RepV1.scalar {w w' : World} {A A' : Nat → Prop} {nm μ μ' : Nat → Nat} {H H' : Nat → Option O} {v : Value} {x : V} (h : RepV1 w A nm μ H v x) (hx : x.scalar2 = true) : RepV1 w' A' nm μ' H' v x := by
  cases x with
  | agg cs =>
    obtain ⟨vs, rfl, h1, h2⟩ := h
    refine ⟨vs, rfl, h1, fun i c hi => ?_⟩
    obtain ⟨u, hu, hr⟩ := h2 i c hi
    exact ⟨u, hu, hr.scalar (List.all_eq_true.1 hx c (List.mem_of_getElem? hi))⟩
  | t y => exact RepC.scalar (x := .t y) h hx
  | _ => simp [V.scalar2, V.scalar1] at hx
theorem RepV.scalar {w w' : World} {A A' : Nat → Prop} {nm μ μ' : Nat → Nat} {H H' : Nat → Option O} {v : Value} {x : V} (h : RepV w A nm μ H v x) (hx : x.scalar = true) : RepV w' A' nm μ' H' v x := by
  cases x with
  | tup cs =>
    obtain ⟨vs, rfl, h1, h2⟩ := h
    refine ⟨vs, rfl, h1, fun i c hi => ?_⟩
    obtain ⟨u, hu, hr⟩ := h2 i c hi
    exact ⟨u, hu, hr.scalar (List.all_eq_true.1 hx c (List.mem_of_getElem? hi))⟩
  | agg cs => exact (RepV1.scalar (x := .agg cs) h hx).toV
  | t y => exact (RepV1.scalar (x := .t y) h hx).toV
  | _ => simp [V.scalar, V.scalar2, V.scalar1] at hx
end
end Rg
end
section
/- Rg, part Q: calls. No condition. -/
namespace Rg
open Go
def RepArgs (w : World) (A : Nat → Prop) (nm μ : Nat → Nat) (H : Nat → Option O) (vs : Array Value) (xs : List V) : Prop :=
  vs.size = xs.length ∧ ∀ (i : Nat) (x : V), xs[i]? = some x → ∃ v, vs[i]? = some v ∧ RepV w A nm μ H v x
theorem RepArgs.append {w : World} {A : Nat → Prop} {nm μ : Nat → Nat} {H : Nat → Option O} {vs us : Array Value} {xs ys : List V} (h : RepArgs w A nm μ H vs xs) (h' : RepArgs w A nm μ H us ys) :
    RepArgs w A nm μ H (vs ++ us) (xs ++ ys) := by
  refine ⟨by simp [h.1, h'.1], fun i x hi => ?_⟩
  rw [List.getElem?_append] at hi
  split at hi
  · rename_i hlt
    obtain ⟨v, hv, hr⟩ := h.2 i x hi
    exact ⟨v, by rw [Array.getElem?_append_left (by rw [h.1]; exact hlt)]; exact hv, hr⟩
  · rename_i hge
    obtain ⟨v, hv, hr⟩ := h'.2 _ x hi
    exact ⟨v, by rw [Array.getElem?_append_right (by rw [h.1]; omega), h.1]; exact hv, hr⟩
def GlobOK (N : Nam) (A : Nat → Prop) (w : World) : Prop :=
  ∀ (g j : Nat) (x : T), (N.G g)[j]? = some x → A (N.gm g) ∧ ∃ v, w.cell? ⟨N.gm g, j, none⟩ = some v ∧ RepT w A N.nm v x
/-- A call that changes no memory that was there, and whose result is a tree. -/
def PureOK (P : Program) (N : Nam) (g : Nat) (args : List V) (r : V) : Prop :=
  ∀ (A : Nat → Prop) (w : World) (vs : Array Value), (∀ r, A r → r < w.heap.size) → GlobOK N A w → RepArgs w A N.nm (fun _ => 0) (fun _ => none) vs args →
    Calls P (N.nm g) vs w fun e w' => ∃ v, e = .returned v ∧ (w'.os = w.os ∧ w'.output = w.output) ∧ w.heap.size ≤ w'.heap.size ∧ (∀ q, q < w.heap.size → w'.heap[q]? = w.heap[q]?) ∧
      RepV w' (fun q => A q ∨ (w.heap.size ≤ q ∧ q < w'.heap.size)) N.nm (fun _ => 0) (fun _ => none) v r
def bareAct : Act := { tmps := #[], defers := [] }
/-- A call that may change the heap. -/
def RawOK (P : Program) (N : Nam) (g : Nat) (args : List V) (H : Nat → Option O) (n : Nat) (r : V) (H' : Nat → Option O) (n' : Nat) : Prop :=
  ∀ (c : Ctx) (A : Nat → Prop) (μ lam : Nat → Nat) (w : World) (vs : Array Value), Rel N c 0 A μ lam (.init [] H n) bareAct w → RepArgs w A N.nm μ H vs args →
    Calls P (N.nm g) vs w fun e w' => ∃ v A' μ' lam', e = .returned v ∧ Rel N c 0 A' μ' lam' (.init [] H' n') bareAct w' ∧ RepV w' A' N.nm μ' H' v r
/-- A function of the machine that can be called. -/
structure Real (P : Program) (F : Nat) (rf : Func) : Prop where
  f : P.funcs[F]? = some rf
  b : rf.body.isSome = true
  n : (rf.name == "runtime.NumGoroutine") = false
section
variable {P : Program} {N : Nam} {I : Inv} {c : Ctx} {ns p : Nat} {A : Nat → Prop} {μ lam : Nat → Nat} {s : St} {a : Act} {w : World} {e : Eff} {o : Oper}
theorem exec_call {cl : Call} {f : Operand} {F : Nat} {va vb : Array Value} {rf : Func} (ho : o.op = .call cl) (hb : cl.callee = .value f) (hv : a.eval f = .func (.func F) va vb) (hr : Real P F rf) :
    (execOp a.eval o).run P w = .ok (.enter F (va ++ cl.args.map a.eval ++ vb)) w := by
  have hbn : rf.body.isNone = false := by have := hr.b; cases h : rf.body <;> simp_all
  have hn := hr.n
  simp only [execOp, ho, resolve, hb, Sem.run_bind, hv, Deferred.ofValue, Sem.run_pure, Result.andThen_ok, invoke, callFunc, run_program, hr.f, hn, hbn, Bool.false_eq_true, if_false]
theorem fn_inv {fv : V} {v : Value} {g : Nat} {as bs : List V} (hr : RepV w A N.nm μ s.heap v fv) (hf : fnOf fv = some (g, as, bs)) :
    ∃ va vb, v = .func (.func (N.nm g)) va vb ∧ RepArgs w A N.nm μ s.heap va as ∧ RepArgs w A N.nm μ s.heap vb bs := by
  unfold fnOf at hf
  split at hf
  · simp only [Option.some.injEq, Prod.mk.injEq] at hf
    obtain ⟨rfl, rfl, rfl⟩ := hf
    cases (hr : RepC w A N.nm μ s.heap v _) with
    | fn _ _ _ va vb fa fb ha hb hva hra hvb hrb =>
      exact ⟨va, vb, rfl, ⟨ha, fun i x hi => ⟨fa i, hva i x hi, (hra i x hi).toV⟩⟩, ⟨hb, fun i x hi => ⟨fb i, hvb i x hi, (hrb i x hi).toV⟩⟩⟩
  · simp only [Option.some.injEq, Prod.mk.injEq] at hf
    obtain ⟨rfl, rfl, rfl⟩ := hf
    cases hr.t_inv with
    | fn _ a b va vb fa fb ha hb hva hra hvb hrb =>
      refine ⟨va, vb, rfl, ⟨by simp [ha], fun i x hi => ?_⟩, ⟨by simp [hb], fun i x hi => ?_⟩⟩
      · simp only [List.getElem?_map, Option.map_eq_some_iff] at hi
        obtain ⟨y, hy, rfl⟩ := hi
        exact ⟨fa i, hva i y hy, (RepC.t (hra i y hy)).toV⟩
      · simp only [List.getElem?_map, Option.map_eq_some_iff] at hi
        obtain ⟨y, hy, rfl⟩ := hi
        exact ⟨fb i, hvb i y hy, (RepC.t (hrb i y hy)).toV⟩
  · simp only [Option.some.injEq, Prod.mk.injEq] at hf
    obtain ⟨rfl, rfl, rfl⟩ := hf
    cases hr.t_inv with
    | fa _ c vc fc hc hvc hrc =>
      refine ⟨#[.agg vc], #[], rfl, ⟨rfl, fun i x hi => ?_⟩, ⟨rfl, fun i x hi => by simp at hi⟩⟩
      cases i with
      | succ i => simp at hi
      | zero =>
        simp only [List.getElem?_cons_zero, Option.some.injEq] at hi
        subst hi
        refine ⟨.agg vc, rfl, ?_⟩
        refine ⟨vc, rfl, by simp [hc], fun j y hj => ?_⟩
        simp only [List.getElem?_map, Option.map_eq_some_iff] at hj
        obtain ⟨z, hz, rfl⟩ := hj
        exact ⟨fc j, by simpa using hvc j z hz, .t (hrc j z hz)⟩
  · simp at hf
theorem RepV1.mono {w : World} {A A' : Nat → Prop} {nm μ : Nat → Nat} {H : Nat → Option O} {v : Value} {x : V} (h : RepV1 w A nm μ H v x) (hA : ∀ r, A r → A' r) : RepV1 w A' nm μ H v x :=
  h.evo ⟨fun _ _ => rfl, hA, fun _ o h => ⟨o, h, O.le_refl o, fun _ => rfl⟩, fun _ _ h => h⟩
theorem RepV.mono {w : World} {A A' : Nat → Prop} {nm μ : Nat → Nat} {H : Nat → Option O} {v : Value} {x : V} (h : RepV w A nm μ H v x) (hA : ∀ r, A r → A' r) : RepV w A' nm μ H v x :=
  h.evo ⟨fun _ _ => rfl, hA, fun _ o h => ⟨o, h, O.le_refl o, fun _ => rfl⟩, fun _ _ h => h⟩
/-- Nothing of the abstract heap: then the heap does not matter. -/
theorem RepV.noheap {w : World} {A : Nat → Prop} {nm μ μ' : Nat → Nat} {H' : Nat → Option O} {v : Value} {x : V} (h : RepV w A nm μ (fun _ => none) v x) : RepV w A nm μ' H' v x :=
  h.evo ⟨fun _ _ => rfl, fun _ h => h, fun _ _ h => by simp at h, fun _ _ h => h⟩
theorem freezes_back (H0 : Nat → Option O) : ∀ (l : List Nat) (h : Nat → Option O) (k : Nat) (o : O), hpUpd h (Rg.freezes H0 l) k = some o → h k = some o ∨ ∃ sz rs f, H0 k = some (.rows sz rs f)
  | [], h, k, o, hk => .inl hk
  | q :: l, h, k, o, hk => by
    by_cases hq : ∃ sz rs f, H0 q = some (.rows sz rs f)
    · obtain ⟨sz, rs, f, hq⟩ := hq
      have : Rg.freezes H0 (q :: l) = (q, .rows sz rs true) :: Rg.freezes H0 l := by simp [Rg.freezes, hq]
      rw [this] at hk
      rcases freezes_back H0 l _ k o hk with h1 | h1
      · by_cases e : k = q
        · subst e; exact .inr ⟨sz, rs, f, hq⟩
        · rw [upd_other _ _ e] at h1; exact .inl h1
      · exact .inr h1
    · have : Rg.freezes H0 (q :: l) = Rg.freezes H0 l := by
        simp only [Rg.freezes, List.filterMap_cons]
        split
        · rfl
        · rename_i x hx
          split at hx
          · rename_i sz rs f h; exact absurd ⟨sz, rs, f, h⟩ hq
          · simp at hx
      rw [this] at hk
      exact freezes_back H0 l h k o hk
/-- A pure call. -/
theorem pure_step (hI : I.Ok N) (R : Rel N c ns A μ lam s a w) {cl : Call} {f : Operand} {f' : Opd} {args' : List Opd} {fv : V} {g : Nat} {as bs vs rs : List V} {r : V} {rf : Func} {Q : Exit → Act → World → Prop}
    (ho : o.op = .call cl) (hb : cl.callee = .value f) (hf : opd I f = some f') (hargs : opds I cl.args = some args') (hfv : evl N.G s f' = some fv) (hfn : fnOf fv = some (g, as, bs))
    (hreal : Real P (N.nm g) rf) (hvs : evls N.G s args' = some vs) (hrs : (as ++ vs ++ bs).mapM (toT1 s.heap) = some rs) (hc : PureOK P N g rs r)
    (hd : ∀ x, o.dst = some x → x < ns) (hfree : s.free o.dst {}) :
    o.wp P a w (fun a' w' => ∃ A' μ' lam', Rel N c ns A' μ' lam' (s.apply o.dst { val := r, hp := if r.scalar then [] else freezes s.heap ((as ++ vs ++ bs).flatMap (reach1 s.heap)) }) a' w') Q := by
  obtain ⟨va, vb, hv, ha, hb'⟩ := fn_inv (opd_eval hI R hf hfv) hfn
  have hargsR : RepArgs w A N.nm μ s.heap (cl.args.map a.eval) vs := opds_eval hI R hargs hvs
  have hall := (ha.append hargsR).append hb'
  obtain ⟨m1, m2⟩ := mapM_some hrs
  let A2 : Nat → Prop := fun r => A r ∨ ∃ k ∈ (as ++ vs ++ bs).flatMap (reach1 s.heap), isRows s.heap k ∧ μ k = r
  have hA2lt : ∀ r, A2 r → r < w.heap.size := by
    rintro r (h | ⟨k, _, ⟨sz, rs, f, hk⟩, rfl⟩)
    · exact R.alt r h
    · exact R.lt_live hk rfl
  have hgl : GlobOK N A2 w := by
    intro g j x h
    obtain ⟨h1, v, hv, hr⟩ := R.glob g j x h
    exact ⟨.inl h1, v, hv, hr.mono (fun _ _ => rfl) (fun _ h => .inl h)⟩
  have hrep : RepArgs w A2 N.nm (fun _ => 0) (fun _ => none) (va ++ cl.args.map a.eval ++ vb) rs := by
    refine ⟨by rw [hall.1, m1], fun i x hi => ?_⟩
    obtain ⟨y, hy, ht⟩ := m2 i x hi
    obtain ⟨v, hv, hr⟩ := hall.2 i y hy
    refine ⟨v, hv, ((toT1_rep R.heap ht hr (fun _ => 0) (fun _ => none)).mono ?_).toV⟩
    rintro q (h | ⟨k, hk, h2⟩)
    · exact .inl h
    · exact .inr ⟨k, List.mem_flatMap.2 ⟨y, List.mem_of_getElem? hy, hk⟩, h2⟩
  have hcall := hc A2 w _ hA2lt hgl hrep
  unfold Oper.wp
  rw [exec_call ho hb hv hreal, Oper.upon_enter]
  refine hcall.mono ?_
  rintro e w' ⟨v, rfl, hov, hsz, hkeep, hrv⟩
  have hshp : ∀ r x, w.shape? r = some x → w'.shape? r = some x := by
    intro r x h
    have hlt : r < w.heap.size := by
      rcases Nat.lt_or_ge r w.heap.size with h' | h'
      · exact h'
      · simp [World.shape?, Array.getElem?_eq_none h'] at h
    simpa [World.shape?, hkeep r hlt] using h
  have R1 : Rel N c ns A μ lam s a w' := by
    refine R.world hsz ?_ (fun r hr _ => hkeep r (Nat.lt_of_lt_of_le hr R.csize)) hshp hov
    rintro r (h | ⟨t, h, rfl⟩ | ⟨k, o', h, hl, rfl⟩)
    · exact hkeep r (R.alt r h)
    · exact hkeep _ (R.lt_loc h)
    · exact hkeep _ (R.lt_live h hl)
  by_cases hs : r.scalar = true
  · refine ⟨A, μ, lam, ?_⟩
    have := R1.put o.dst { val := r } v hd hfree rfl rfl rfl (hrv.scalar hs) (by simp)
    simpa [hs] using this
  · obtain ⟨A', R2, hsub, hin⟩ := Rel.freezes (μ := μ) s.heap ((as ++ vs ++ bs).flatMap (reach1 s.heap)) A s R1 (fun k sz rs f h => ⟨f, h⟩)
    have R3 := R2.growA (fun q => w.heap.size ≤ q ∧ q < w'.heap.size) (fun q hq t ht => by have := R.lt_loc ht; omega)
      (fun q hq k o hk hl => by
        have : ∃ o', s.heap k = some o' ∧ o'.live = true := by
          rcases freezes_back s.heap _ _ k o hk with h | ⟨sz, rs, f, h⟩
          · exact ⟨o, h, hl⟩
          · exact ⟨_, h, rfl⟩
        obtain ⟨o', h1, h2⟩ := this
        have := R.lt_live h1 h2; omega)
      (fun q hq => .inr (by have := R.csize; omega)) (fun q hq => hq.2)
    refine ⟨fun q => A' q ∨ (w.heap.size ≤ q ∧ q < w'.heap.size), μ, lam, ?_⟩
    have hfin : RepV w' (fun q => A' q ∨ (w.heap.size ≤ q ∧ q < w'.heap.size)) N.nm μ (hpUpd s.heap (Rg.freezes s.heap ((as ++ vs ++ bs).flatMap (reach1 s.heap)))) v r := by
      refine (RepV.noheap hrv).mono ?_
      rintro q ((h | ⟨k, hk, ⟨sz, rs, f, hk2⟩, rfl⟩) | h)
      · exact .inl (hsub q h)
      · exact .inl (hin k hk sz rs f hk2)
      · exact .inr h
    have := R3.put o.dst { val := r } v hd hfree rfl rfl rfl hfin (by simp)
    rw [if_neg hs]
    exact this
end
end Rg
end
section
/- Rg, part R: calls that change the heap; how a function is entered and left. No condition. -/
namespace Rg
open Go
section
variable {P : Program} {N : Nam} {I : Inv} {c : Ctx} {ns p : Nat} {A : Nat → Prop} {μ lam : Nat → Nat} {s : St} {a : Act} {w : World} {e : Eff} {o : Oper}
/-- The part of a state that is the heap. -/
theorem Rel.bare (R : Rel N c ns A μ lam s a w) : Rel N ⟨w, MBH s.heap μ, A, s.heap, μ⟩ 0 A μ lam (.init [] s.heap s.nxt) bareAct w where
  size := rfl
  defers := rfl
  env t := by simp [St.init, initEnv, bareAct, RepV]
  loc t cs h := by simp [St.init] at h
  adr t b o h := by simp [St.init] at h
  heap := R.heap
  hinj := R.hinj
  linj t t' h := by simp [St.init] at h
  lh t k o h := by simp [St.init] at h
  aH := R.aH
  aL r _ := by rintro ⟨t, h, _⟩; simp [St.init] at h
  alt := R.alt
  afz := R.afz
  fresh := R.fresh
  glob := R.glob
  cout := ⟨rfl, rfl⟩
  csize := Nat.le_refl _
  ckeep _ _ _ := rfl
  cshp _ _ h := h
  csub _ h := h
  canew _ h := .inl h
  clive _ h := .inl h
  cloc t h := by simp [St.init] at h
  chp k o h := ⟨o, h, O.le_refl o, fun _ => rfl⟩
theorem Rel.back (R : Rel N c ns A μ lam s a w) {A' : Nat → Prop} {μ' lam' : Nat → Nat} {H' : Nat → Option O} {n' : Nat} {w' : World}
    (R' : Rel N ⟨w, MBH s.heap μ, A, s.heap, μ⟩ 0 A' μ' lam' (.init [] H' n') bareAct w') :
    Evo w A μ s.heap w' A' μ' H' ∧ Rel N c ns A' μ' lam { s with heap := H', nxt := n' } a w' := by
  have E : Evo w A μ s.heap w' A' μ' H' := ⟨fun r h => R'.ckeep r (R.alt r h) (R.aH r h), R'.csub, R'.chp, R'.cshp⟩
  have hX : ∀ t r, (s.loc t).isSome = true → MBH s.heap μ r → lam t ≠ r := by
    rintro t r ht ⟨k, o, hk, _, hl, rfl⟩
    exact R.lh t k o ht hk hl
  have hsz : w.heap.size ≤ w'.heap.size := R'.csize
  have hA : ∀ r, A' r → A r ∨ MBH s.heap μ r ∨ w.heap.size ≤ r := R'.canew
  have hlive : ∀ k o, H' k = some o → o.live = true → A' (μ' k) ∨ MBH s.heap μ (μ' k) ∨ w.heap.size ≤ μ' k := by
    intro k o h hl
    by_cases hf : ∃ sz rs, o = .rows sz rs true
    · obtain ⟨sz, rs, rfl⟩ := hf
      exact .inl (R'.afz k sz rs h)
    · exact .inr (R'.clive _ ⟨k, o, h, fun sz rs e => hf ⟨sz, rs, e⟩, hl, rfl⟩)
  refine ⟨E, { R with env := fun t => (R.env t).evo E, loc := ?_, heap := R'.heap, hinj := R'.hinj, lh := ?_, aH := R'.aH, aL := ?_, alt := R'.alt, afz := R'.afz, fresh := R'.fresh, glob := R'.glob, cout := ⟨R'.cout.1.trans R.cout.1, R'.cout.2.trans R.cout.2⟩, csize := Nat.le_trans R.csize hsz, ckeep := ?_, cshp := ?_, csub := ?_, canew := ?_, clive := ?_, chp := ?_ }⟩
  · intro t cs h
    obtain ⟨h1, h2⟩ := R.loc t cs h
    have ht : (s.loc t).isSome = true := by rw [h]; rfl
    exact ⟨h1, h2.evo E (R'.ckeep _ (R.lt_loc ht) (fun hm => hX t _ ht hm rfl))⟩
  · intro t k o ht h hl he
    rcases hlive k o h hl with h1 | h1 | h1
    · rcases hA _ h1 with h2 | h2 | h2
      · exact R.aL _ h2 ⟨t, ht, he⟩
      · exact hX t _ ht h2 he
      · have := R.lt_loc ht; omega
    · exact hX t _ ht h1 he
    · have := R.lt_loc ht; omega
  · rintro r hr ⟨t, ht, he⟩
    rcases hA r hr with h2 | h2 | h2
    · exact R.aL _ h2 ⟨t, ht, he⟩
    · exact hX t _ ht h2 he
    · have := R.lt_loc ht; omega
  · intro r h1 h2
    rw [R'.ckeep r (Nat.lt_of_lt_of_le h1 R.csize) ?_]
    · exact R.ckeep r h1 h2
    · intro hm
      rcases R.clive r hm with h | h
      · exact h2 h
      · omega
  · intro r x h; exact R'.cshp r x (R.cshp r x h)
  · intro r h; exact R'.csub r (R.csub r h)
  · intro r h
    rcases hA r h with h | h | h
    · exact R.canew r h
    · exact .inr (R.clive r h)
    · exact .inr (.inr (Nat.le_trans R.csize h))
  · intro r h
    rcases R'.clive r h with h | h
    · exact R.clive r h
    · exact .inr (Nat.le_trans R.csize h)
  · intro k o h
    obtain ⟨o1, h1, h2, h3⟩ := R.chp k o h
    obtain ⟨o2, h4, h5, h6⟩ := R'.chp k o1 h1
    refine ⟨o2, h4, O.le_trans h2 h5, fun hl => ?_⟩
    have hl1 : o1.live = true := by
      cases o1 <;> first | rfl | (cases o2 <;> simp_all [O.le, O.live])
    have e1 := h6 hl
    have e2 := h3 hl1
    simp only at e1
    rw [e1, e2]
/-- A call that may change the heap. -/
theorem raw_step (hI : I.Ok N) (R : Rel N c ns A μ lam s a w) {cl : Call} {f : Operand} {f' : Opd} {args' : List Opd} {fv : V} {g : Nat} {as bs vs : List V} {r : V} {rf : Func} {H' : Nat → Option O} {n' : Nat} {Q : Exit → Act → World → Prop}
    (ho : o.op = .call cl) (hb : cl.callee = .value f) (hf : opd I f = some f') (hargs : opds I cl.args = some args') (hfv : evl N.G s f' = some fv) (hfn : fnOf fv = some (g, as, bs))
    (hreal : Real P (N.nm g) rf) (hvs : evls N.G s args' = some vs) (hc : RawOK P N g (as ++ vs ++ bs) s.heap s.nxt r H' n')
    (hd : ∀ x, o.dst = some x → x < ns) (hfree : s.free o.dst {}) :
    o.wp P a w (fun a' w' => ∃ A' μ' lam', Rel N c ns A' μ' lam' ({ s with heap := H', nxt := n' }.apply o.dst { val := r }) a' w') Q := by
  obtain ⟨va, vb, hv, ha, hb'⟩ := fn_inv (opd_eval hI R hf hfv) hfn
  have hargsR : RepArgs w A N.nm μ s.heap (cl.args.map a.eval) vs := opds_eval hI R hargs hvs
  have hcall := hc _ A μ lam w _ R.bare ((ha.append hargsR).append hb')
  unfold Oper.wp
  rw [exec_call ho hb hv hreal, Oper.upon_enter]
  refine hcall.mono ?_
  rintro e w' ⟨v, A', μ', lam', rfl, R', hr⟩
  obtain ⟨_, R1⟩ := R.back R'
  exact ⟨A', μ', lam, R1.put o.dst { val := r } v hd hfree rfl rfl rfl hr (by simp)⟩
theorem ownR_key {key : Nat} {r : V} {h : Nat → Option O} {e : Eff} (he : ownR key r h = some e) : ∀ x ∈ e.hp, x.1 = key := by
  unfold ownR at he
  split at he
  · simp only [Option.some.injEq] at he; subst he; intro x hx; simp at hx
  · split at he
    · split at he
      · simp only [Option.some.injEq] at he; subst he; intro x hx; simp only [List.mem_singleton] at hx; rw [hx]
      · simp at he
    · simp at he
  · simp at he
theorem ownR_shape {key : Nat} {r : V} {h : Nat → Option O} {e : Eff} (he : ownR key r h = some e) : e.adr = none ∧ e.loc = none ∧ e.wloc = none := by
  unfold ownR at he
  split at he
  · simp only [Option.some.injEq] at he; subst he; exact ⟨rfl, rfl, rfl⟩
  · split at he
    · split at he
      · simp only [Option.some.injEq] at he; subst he; exact ⟨rfl, rfl, rfl⟩
      · simp at he
    · simp at he
  · simp at he
/-- A call that gives a slice of its own. -/
theorem fresh_step (hI : I.Ok N) (R : Rel N c ns A μ lam s a w) {cl : Call} {f : Operand} {f' : Opd} {args' : List Opd} {fv : V} {g : Nat} {as bs vs rs : List V} {r : V} {rf : Func} {H' : Nat → Option O} {n' : Nat} {e : Eff} {Q : Exit → Act → World → Prop}
    (ho : o.op = .call cl) (hb : cl.callee = .value f) (hf : opd I f = some f') (hargs : opds I cl.args = some args') (hfv : evl N.G s f' = some fv) (hfn : fnOf fv = some (g, as, bs))
    (hreal : Real P (N.nm g) rf) (hvs : evls N.G s args' = some vs) (hrs : (as ++ vs ++ bs).mapM (toT1 s.heap) = some rs) (hrn : (as ++ vs ++ bs).flatMap (reach1 s.heap) = []) (hc : RawOK P N g rs (fun _ => none) 0 r H' n')
    (he : ownR (s.bas + p) r H' = some e) (hd : ∀ x, o.dst = some x → x < ns) (hfree : s.free o.dst {}) (hk : s.heap (s.bas + p) = none) (hn : s.bas + p < s.nxt) :
    o.wp P a w (fun a' w' => ∃ A' μ' lam', Rel N c ns A' μ' lam' (s.apply o.dst e) a' w') Q := by
  obtain ⟨va, vb, hv, ha, hb'⟩ := fn_inv (opd_eval hI R hf hfv) hfn
  have hargsR : RepArgs w A N.nm μ s.heap (cl.args.map a.eval) vs := opds_eval hI R hargs hvs
  have hall := (ha.append hargsR).append hb'
  obtain ⟨m1, m2⟩ := mapM_some hrs
  have hrep : RepArgs w A N.nm (fun _ => 0) (fun _ => none) (va ++ cl.args.map a.eval ++ vb) rs := by
    refine ⟨by rw [hall.1, m1], fun i x hi => ?_⟩
    obtain ⟨y, hy, ht⟩ := m2 i x hi
    obtain ⟨v, hv, hr⟩ := hall.2 i y hy
    refine ⟨v, hv, ((toT1_rep R.heap ht hr (fun _ => 0) (fun _ => none)).mono ?_).toV⟩
    rintro q (h | ⟨k, hk, h2⟩)
    · exact h
    · have : reach1 s.heap y = [] := by
        rw [List.flatMap_eq_nil_iff] at hrn
        exact hrn y (List.mem_of_getElem? hy)
      rw [this] at hk; simp at hk
  have HR : Rel N ⟨w, fun _ => False, A, fun _ => none, fun _ => 0⟩ 0 A (fun _ => 0) (fun _ => 0) (.init [] (fun _ => none) 0) bareAct w :=
    { size := rfl, defers := rfl, env := fun t => by simp [St.init, initEnv, bareAct, RepV], loc := fun t cs h => by simp [St.init] at h, adr := fun t b o h => by simp [St.init] at h,
      heap := fun k o h => by simp [St.init] at h, hinj := fun k k' o o' h => by simp [St.init] at h, linj := fun t t' h => by simp [St.init] at h, lh := fun t k o h => by simp [St.init] at h,
      aH := fun r _ => by rintro ⟨k, o, h, _⟩; simp [St.init] at h, aL := fun r _ => by rintro ⟨t, h, _⟩; simp [St.init] at h, alt := R.alt, afz := fun k sz rs h => by simp [St.init] at h, fresh := fun _ _ => rfl,
      glob := R.glob, cout := ⟨rfl, rfl⟩, csize := Nat.le_refl _, ckeep := fun _ _ _ => rfl, cshp := fun _ _ h => h, csub := fun _ h => h, canew := fun _ h => .inl h, clive := fun r => by rintro ⟨k, o, h, _⟩; simp [St.init] at h,
      cloc := fun t h => by simp [St.init] at h, chp := fun k o h => by simp at h }
  have hcall := hc _ A (fun _ => 0) (fun _ => 0) w _ HR hrep
  unfold Oper.wp
  rw [exec_call ho hb hv hreal, Oper.upon_enter]
  refine hcall.mono ?_
  rintro e0 w' ⟨v, A', μ', lam', rfl, R', hrv⟩
  have hkeep : ∀ q, q < w.heap.size → w'.heap[q]? = w.heap[q]? := fun q hq => R'.ckeep q hq (fun h => h)
  have hsz : w.heap.size ≤ w'.heap.size := R'.csize
  have R1 : Rel N c ns A μ lam s a w' := by
    refine R.world hsz ?_ (fun r hr _ => hkeep r (Nat.lt_of_lt_of_le hr R.csize)) R'.cshp R'.cout
    rintro r (h | ⟨t, h, rfl⟩ | ⟨k, o', h, hl, rfl⟩)
    · exact hkeep r (R.alt r h)
    · exact hkeep _ (R.lt_loc h)
    · exact hkeep _ (R.lt_live h hl)
  unfold ownR at he
  split at he
  · simp only [Option.some.injEq] at he; subst he
    have hnil : RepT w' A' N.nm v .nils := hrv.t_inv
    refine ⟨A, μ, lam, R1.put o.dst { val := .t .nils } v hd hfree rfl rfl rfl ?_ (by simp)⟩
    cases hnil with
    | nils a => exact (RepC.t (.nils a)).toV
  · rename_i k i n
    split at he
    · rename_i sz rws hkk
      split at he
      · rename_i hcond
        obtain ⟨rfl, rfl, htr⟩ := hcond
        simp only [Option.some.injEq] at he; subst he
        have hobj := R'.heap k _ hkk
        have hlive : MBH (St.init [] H' n').heap μ' (μ' k) := ⟨k, _, hkk, by intro sz rs h; simp at h, rfl, rfl⟩
        have hqn : w.heap.size ≤ μ' k := by
          rcases R'.clive _ hlive with h | h
          · exact h.elim
          · exact h
        have hq : ¬ A' (μ' k) := fun h => R'.aH _ h hlive
        have R2 := R1.growA (fun q => A' q ∧ w.heap.size ≤ q) (fun q hq t ht => by have := R.lt_loc ht; omega) (fun q hq k o hk hl => by have := R.lt_live hk hl; omega)
          (fun q hq => .inr (by have := R.csize; omega)) (fun q hq => R'.alt q hq.1)
        have hA' : ∀ q, A' q → A q ∨ (A' q ∧ w.heap.size ≤ q) := by
          intro q hq
          rcases R'.canew q hq with h | h | h
          · exact .inl h
          · exact h.elim
          · exact .inr ⟨hq, h⟩
        have horp : Orphan c (fun q => A q ∨ (A' q ∧ w.heap.size ≤ q)) μ lam s (μ' k) := by
          refine ⟨?_, fun t ht e => ?_, fun k1 o1 h1 l1 e => ?_, .inr (by have := R.csize; omega)⟩
          · rintro (h | h)
            · have := R.alt _ h; omega
            · exact hq h.1
          · have := R.lt_loc ht; omega
          · have := R.lt_live h1 l1; omega
        obtain ⟨cc, e1, z, g1, g2, g3, g4, g5⟩ := hobj
        have htrs : ∀ (i : Nat) (row : List V) (j : Nat) (x : V), rws[i]? = some row → row[j]? = some x → ∃ y, x = .t y := by
          intro i row j x hi hj
          have h1 := List.all_eq_true.1 htr row (List.mem_of_getElem? hi)
          have h2 := List.all_eq_true.1 h1 x (List.mem_of_getElem? hj)
          cases x with
          | t y => exact ⟨y, rfl⟩
          | _ => simp [V.isTr] at h2
        have hobj2 : HObj w' (fun q => A q ∨ (A' q ∧ w.heap.size ≤ q)) N.nm μ s.heap (μ' k) (.rows sz rws false) := by
          refine ⟨cc, e1, z, g1, g2, g3, g4, fun i row j x hi hj => ?_⟩
          obtain ⟨y, rfl⟩ := htrs i row j x hi hj
          obtain ⟨u, hu, hr⟩ := g5 i row j _ hi hj
          refine ⟨u, hu, .t ?_⟩
          cases hr with
          | t h => exact h.mono (fun _ _ => rfl) hA'
        have R3 := R2.adoptH (k := s.bas + p) hk hn horp hobj2 (by intro sz rs h; simp at h)
        have hslice : RepV w' (fun q => A q ∨ (A' q ∧ w.heap.size ≤ q)) N.nm (upd μ (s.bas + p) (μ' k)) (upd s.heap (s.bas + p) (some (.rows sz rws false))) v (.ms (s.bas + p) 0 rws.length) := by
          cases (hrv : RepC w' A' N.nm μ' H' v _) with
          | ms _ _ _ cap sz' rs' fz' a' hk' hi' hc' ha' =>
            have : some (O.rows sz' rs' fz') = some (O.rows sz rws false) := hk'.symm.trans hkk
            cases this
            refine RepC.toV (.ms _ _ _ cap sz rws false a' (by simp) hi' hc' ?_)
            rcases ha' with h | ⟨h1, e2, n2, h2, h3⟩
            · exact .inl h
            · exact .inr ⟨by rw [upd_same]; exact h1, e2, n2, by rw [upd_same]; exact h2, h3⟩
          | dms _ _ _ hk' _ => have := hk'.symm.trans hkk; simp at this
        exact ⟨_, _, lam, R3.put o.dst { val := .ms (s.bas + p) 0 rws.length } v hd hfree rfl rfl rfl hslice (by simp)⟩
      · simp at he
    · simp at he
  · simp at he
/-- A function is entered. -/
theorem rel_enter {H : Nat → Option O} {n : Nat} (HR : Rel N c 0 A μ lam (.init [] H n) bareAct w) {vs : Array Value} {xs : List V} (h : RepArgs w A N.nm μ H vs xs) (k : Nat) :
    Rel N c (vs ++ Array.replicate (k - vs.size) undef).size A μ lam (.init xs H n) { tmps := vs ++ Array.replicate (k - vs.size) undef, defers := [] } w where
  size := rfl
  defers := rfl
  env t := by
    show RepV w A N.nm μ H ((vs ++ Array.replicate (k - vs.size) undef).getD t undef) (xs.getD t .undef)
    by_cases ht : t < xs.length
    · obtain ⟨v, hv, hr⟩ := h.2 t xs[t] (List.getElem?_eq_getElem ht)
      have e1 : (vs ++ Array.replicate (k - vs.size) undef).getD t undef = v := by
        rw [Array.getD_eq_getD_getElem?, Array.getElem?_append_left (by rw [h.1]; exact ht), hv]; rfl
      have e2 : xs.getD t .undef = xs[t] := by rw [List.getD_eq_getElem?_getD, List.getElem?_eq_getElem ht]; rfl
      rw [e1, e2]; exact hr
    · have e2 : xs.getD t .undef = .undef := by rw [List.getD_eq_getElem?_getD, List.getElem?_eq_none (by omega)]; rfl
      have e1 : (vs ++ Array.replicate (k - vs.size) undef).getD t undef = undef := by
        rw [Array.getD_eq_getD_getElem?, Array.getElem?_append_right (by rw [h.1]; omega), Array.getElem?_replicate]
        split <;> rfl
      rw [e1, e2]; exact rfl
  loc t cs h := by simp [St.init] at h
  adr t b o h := by simp [St.init] at h
  heap := HR.heap
  hinj := HR.hinj
  linj t t' h := by simp [St.init] at h
  lh t k o h := by simp [St.init] at h
  aH := HR.aH
  aL r _ := by rintro ⟨t, h, _⟩; simp [St.init] at h
  alt := HR.alt
  afz := HR.afz
  fresh := HR.fresh
  glob := HR.glob
  cout := HR.cout
  csize := HR.csize
  ckeep := HR.ckeep
  cshp := HR.cshp
  csub := HR.csub
  canew := HR.canew
  clive := HR.clive
  cloc t h := by simp [St.init] at h
  chp := HR.chp
/-- A function is left. -/
theorem rel_leave (R : Rel N c ns A μ lam s a w) : Rel N c 0 A μ lam (.init [] s.heap s.nxt) bareAct w where
  size := rfl
  defers := rfl
  env t := by simp [St.init, initEnv, bareAct, RepV]
  loc t cs h := by simp [St.init] at h
  adr t b o h := by simp [St.init] at h
  heap := R.heap
  hinj := R.hinj
  linj t t' h := by simp [St.init] at h
  lh t k o h := by simp [St.init] at h
  aH := R.aH
  aL r _ := by rintro ⟨t, h, _⟩; simp [St.init] at h
  alt := R.alt
  afz := R.afz
  fresh := R.fresh
  glob := R.glob
  cout := R.cout
  csize := R.csize
  ckeep := R.ckeep
  cshp := R.cshp
  csub := R.csub
  canew := R.canew
  clive := R.clive
  cloc t h := by simp [St.init] at h
  chp := R.chp
/-- Where a result lies. -/
def resRel (P : Program) : ResultVar → Res → Prop
  | .tmp t, .s t' => t = t'
  | .cell a ty, .l a' ag n => a = a' ∧ typ P ty = some (ag, n)
  | .cell a ty, .h a' ag n => a = a' ∧ typ P ty = some (ag, n)
  | _, _ => False
def resRun (tmps : Array Value) : ResultVar → Sem Value
  | .tmp t => pure (tmps.getD t undef)
  | .cell a t => do loadVar t (← asAddr (tmps.getD a undef))
theorem res_one (R : Rel N c ns A μ lam s a w) {rv : ResultVar} {rs : Res} {v : V} (hr : resRel P rv rs) (hv : resOf s rs = some v) : ∃ v', (resRun a.tmps rv).run P w = .ok v' w ∧ RepV1 w A N.nm μ s.heap v' v := by
  cases rv with
  | tmp t =>
    cases rs with
    | s t' =>
      cases (hr : t = t')
      have he := R.env t
      simp only [resOf] at hv
      split at hv <;> first | (simp at hv; done) | skip
      simp only [Option.some.injEq] at hv; subst hv
      refine ⟨_, rfl, ?_⟩
      rename_i h1 h2 h3
      revert he h1 h2 h3
      generalize s.env t = x
      intro he h1 h2 h3
      cases x <;> first | exact he | exact absurd rfl h1 | exact absurd rfl h2 | exact absurd rfl (h3 _)
    | l _ _ _ => exact hr.elim
    | h _ _ _ => exact hr.elim
  | cell ad ty =>
    cases rs with
    | s t' => exact hr.elim
    | l b ag n =>
      obtain ⟨rfl, hty⟩ := hr
      simp only [resOf, Option.bind_eq_bind, Option.bind_eq_some_iff] at hv
      obtain ⟨cs, hb, r, hrd, hw⟩ := hv
      obtain ⟨hp, cc, e0, h1, h2⟩ := R.loc ad cs hb
      obtain ⟨h3, h4, h5⟩ := h2.rd hrd
      have hl := run_loadVar (w := w) hty (lam ad) 0 ((cc.toList.drop 0).take n) (by simp at h4 ⊢; omega) (fun j v hj => by
        simp only [List.drop_zero, List.getElem?_take, Array.getElem?_toList] at hj
        split at hj
        · simp [World.cell?, h1, hj]
        · simp at hj)
      exact ⟨wrapV ag ((cc.toList.drop 0).take n), by simp only [resRun, Sem.run_bind, hp, asAddr, Sem.run_pure, Result.andThen_ok, hl], h3.wrap1 hw⟩
    | h b ag n =>
      obtain ⟨rfl, hty⟩ := hr
      have he := R.env ad
      simp only [resOf] at hv
      split at hv
      · rename_i k i off hk0
        rw [hk0] at he
        split at hv
        · rename_i sz rs frz hk
          simp only [Option.bind_eq_bind, Option.bind_eq_some_iff] at hv
          obtain ⟨row, hrow, r, hrd, hw⟩ := hv
          obtain ⟨hp, _⟩ := RepV.mp_inv he hk
          obtain ⟨vs, h1, h2⟩ := row_cells R hk hrow
          obtain ⟨h3, h4, h5⟩ := h1.rd hrd
          have hl := run_loadVar (w := w) hty (μ k) (i * sz + off) ((vs.drop off).take n) (by simp; omega) (fun j v hj => by
            simp only [List.getElem?_take, List.getElem?_drop] at hj
            split at hj
            · rw [Nat.add_assoc]; exact h2 _ v hj
            · simp at hj)
          exact ⟨wrapV ag ((vs.drop off).take n), by simp only [resRun, Sem.run_bind, hp, asAddr, Sem.run_pure, Result.andThen_ok, hl], h3.wrap1 hw⟩
        · simp at hv
      · simp at hv
theorem res_all (R : Rel N c ns A μ lam s a w) {rf : Func} {rs : List Res} {v : V} (hl : rf.results.toList.length = rs.length) (hr : ∀ (i : Nat) (x : ResultVar) (y : Res), rf.results.toList[i]? = some x → rs[i]? = some y → resRel P x y)
    (hv : resAll s rs = some v) : ∃ v', (results rf a.tmps).run P w = .ok v' w ∧ RepV w A N.nm μ s.heap v' v := by
  simp only [resAll, Option.bind_eq_bind, Option.bind_eq_some_iff] at hv
  obtain ⟨vs, hvs, hv⟩ := hv
  have key : ∀ (l : List ResultVar) (rs : List Res) (vs : List V), l.length = rs.length → (∀ (i : Nat) (x : ResultVar) (y : Res), l[i]? = some x → rs[i]? = some y → resRel P x y) → rs.mapM (resOf s) = some vs →
      ∃ us : List Value, (l.mapM (m := Sem) (resRun a.tmps)).run P w = .ok us w ∧ us.length = vs.length ∧ ∀ (i : Nat) (x : V), vs[i]? = some x → ∃ u, us[i]? = some u ∧ RepV1 w A N.nm μ s.heap u x := by
    intro l
    induction l with
    | nil =>
      intro rs vs h1 _ h3
      have : rs = [] := List.length_eq_zero_iff.1 (by simpa using h1.symm)
      subst this
      simp at h3; subst h3
      exact ⟨[], by simp, rfl, by simp⟩
    | cons x l ih =>
      intro rs vs h1 h2 h3
      cases rs with
      | nil => simp at h1
      | cons y rs =>
        simp only [List.mapM_cons, Option.bind_eq_bind, Option.bind_eq_some_iff, Option.pure_def, Option.some.injEq] at h3
        obtain ⟨z, hz, zs, hzs, rfl⟩ := h3
        obtain ⟨u, hu, hur⟩ := res_one (P := P) R (h2 0 x y rfl rfl) hz
        obtain ⟨us, hus, hlen, hget⟩ := ih rs zs (by simpa using h1) (fun i x' y' a1 a2 => h2 (i + 1) x' y' (by simpa using a1) (by simpa using a2)) hzs
        refine ⟨u :: us, by simp only [List.mapM_cons, Sem.run_bind, hu, hus, Result.andThen_ok, Sem.run_pure], by simp [hlen], fun i q hq => ?_⟩
        cases i with
        | zero => simp at hq; subst hq; exact ⟨u, rfl, hur⟩
        | succ i => simp at hq; simpa using hget i q hq
  obtain ⟨us, hus, hlen, hget⟩ := key _ rs vs hl hr hvs
  have hrun : (results rf a.tmps).run P w = .ok (if h : us.toArray.size = 1 then us.toArray[0] else .tuple us.toArray) w := by
    have : (rf.results.mapM (m := Sem) (resRun a.tmps)).run P w = .ok us.toArray w := by
      rw [Array.mapM_eq_mapM_toList]
      simp only [Sem.run_map, hus, Result.andThen_ok]
    have h2 : results rf a.tmps = (do let vs ← rf.results.mapM (m := Sem) (resRun a.tmps); pure (if h : vs.size = 1 then vs[0] else .tuple vs)) := by
      unfold results
      congr 1
    rw [h2]
    simp only [Sem.run_bind, this, Result.andThen_ok, Sem.run_pure]
  refine ⟨_, hrun, ?_⟩
  split at hv
  · rename_i x
    simp only [Option.some.injEq] at hv; subst hv
    obtain ⟨u, hu, hur⟩ := hget 0 _ rfl
    match us, hlen, hu with
    | [u'], _, hu => simp at hu; subst hu; simpa using hur.toV
  · rename_i hne
    simp only [Option.some.injEq] at hv; subst hv
    have hne1 : us.length ≠ 1 := by
      intro h
      rw [hlen] at h
      match vs, h, hne with
      | [x], _, hne => exact hne x rfl
    rw [dif_neg (by simpa using hne1)]
    exact ⟨us.toArray, rfl, by simpa using hlen, fun i q hq => by simpa using hget i q hq⟩
end
end Rg
end
