/- Part of the proof of the laws of the package relyguardlaw11: an abstract machine for the program's functions, what they compute, and that the machine is the program's. No condition. (RgU RgV RgW) -/
import Derived.Test.YtnfmmdkonagnaaaGreatDoorPartAH
section
/- Rg, part U: the abstract machine is sound. Conditions: the program's functions are those of the table, turned by program. -/
namespace Rg
open Go
section
variable (P : Program) (I : Inv)
def compC (rw : Raws) (L : List Nat) (ns : Nat) : Code → Option C
  | .skip => some .skip
  | .region _ ops draw => do
    let l ← compOps P I rw L ns ops [] ops.toList
    if draw then if drawOk ops l then some (.region true l) else none
    else some (.region false l)
  | .seq a b => do
    let a ← compC rw L ns a
    let b ← compC rw L ns b
    some (.seq a b)
  | .cond c a b => do
    let c ← opd I c
    let a ← compC rw L ns a
    let b ← compC rw L ns b
    some (.cond c a b)
  | .block id b => do
    let b ← compC rw L ns b
    some (.block id b)
  | .loop b => do
    let b ← compC rw L ns b
    some (.loop b)
  | .exit id => some (.exit id)
  | .ret => some .ret
  | _ => none
def compRes (L : List Nat) : ResultVar → Option Res
  | .tmp t => some (.s t)
  | .cell a ty => do
    let (ag, n) ← typ P ty
    if L.contains a then some (.l a ag n) else some (.h a ag n)
/-- A function turned. -/
def compF (rw : Raws) (L : List Nat) (raw : Bool) (rf : Func) : Option F := do
  let body ← rf.body
  let b ← compC P I rw L rf.ntmps body
  let rs ← rf.results.toList.mapM (compRes P L)
  if (rf.name == "runtime.NumGoroutine") then none else some { nslots := rf.ntmps, raw := raw, results := rs, body := b }
end
section
variable {P : Program} {I : Inv} {rw : Raws} {L : List Nat} {k : Nat} {rc : Code}
theorem comp_ext {e : Ext} (h : compC P I rw L k rc = some (.ext e)) : False := by
  cases rc <;> simp only [compC, Option.bind_eq_bind, Option.bind_eq_some_iff] at h
  all_goals (first | (cases h; done) | skip)
  · obtain ⟨l, _, h⟩ := h
    split at h
    · split at h <;> cases h
    · cases h
  all_goals ((try (obtain ⟨_, _, h⟩ := h)); (try (obtain ⟨_, _, h⟩ := h)); (try (obtain ⟨_, _, h⟩ := h)); (try (simp at h; done)))
theorem inv_skip (h : compC P I rw L k rc = some .skip) : rc = .skip := by
  cases rc <;> simp [compC, Option.bind_eq_some_iff] at h
  · rfl
  · obtain ⟨l, _, h⟩ := h
    split at h
    · split at h <;> simp at h
    · simp at h
theorem inv_ret (h : compC P I rw L k rc = some .ret) : rc = .ret := by
  cases rc <;> simp [compC, Option.bind_eq_some_iff] at h
  · obtain ⟨l, _, h⟩ := h
    split at h
    · split at h <;> simp at h
    · simp at h
  · rfl
theorem inv_exit {id : Nat} (h : compC P I rw L k rc = some (.exit id)) : rc = .exit id := by
  cases rc <;> simp [compC, Option.bind_eq_some_iff] at h
  · obtain ⟨l, _, h⟩ := h
    split at h
    · split at h <;> simp at h
    · simp at h
  · subst h; rfl
theorem inv_seq {a b : C} (h : compC P I rw L k rc = some (.seq a b)) : ∃ x y, rc = .seq x y ∧ compC P I rw L k x = some a ∧ compC P I rw L k y = some b := by
  cases rc <;> simp [compC, Option.bind_eq_some_iff] at h
  · obtain ⟨l, _, h⟩ := h
    split at h
    · split at h <;> simp at h
    · simp at h
  · rename_i x y
    exact ⟨x, y, rfl, h.1, h.2⟩
theorem inv_cond {c : Opd} {a b : C} (h : compC P I rw L k rc = some (.cond c a b)) : ∃ c0 x y, rc = .cond c0 x y ∧ opd I c0 = some c ∧ compC P I rw L k x = some a ∧ compC P I rw L k y = some b := by
  cases rc <;> simp [compC, Option.bind_eq_some_iff] at h
  · obtain ⟨l, _, h⟩ := h
    split at h
    · split at h <;> simp at h
    · simp at h
  · rename_i c0 x y
    obtain ⟨c', h1, a', h2, b', h3, rfl, rfl, rfl⟩ := h
    exact ⟨c0, x, y, rfl, h1, h2, h3⟩
theorem inv_block {id : Nat} {b : C} (h : compC P I rw L k rc = some (.block id b)) : ∃ x, rc = .block id x ∧ compC P I rw L k x = some b := by
  cases rc <;> simp [compC, Option.bind_eq_some_iff] at h
  · obtain ⟨l, _, h⟩ := h
    split at h
    · split at h <;> simp at h
    · simp at h
  · rename_i id' x
    obtain ⟨h1, rfl⟩ := h
    exact ⟨x, rfl, h1⟩
theorem inv_loop {b : C} (h : compC P I rw L k rc = some (.loop b)) : ∃ x, rc = .loop x ∧ compC P I rw L k x = some b := by
  cases rc <;> simp [compC, Option.bind_eq_some_iff] at h
  · obtain ⟨l, _, h⟩ := h
    split at h
    · split at h <;> simp at h
    · simp at h
  · rename_i x
    exact ⟨x, rfl, h⟩
theorem inv_region {d : Bool} {l : List ROp} (h : compC P I rw L k rc = some (.region d l)) : ∃ id ops, rc = .region id ops d ∧ compOps P I rw L k ops [] ops.toList = some l ∧ (d = true → drawOk ops l = true) := by
  cases rc <;> simp [compC, Option.bind_eq_some_iff] at h
  rename_i id ops draw
  obtain ⟨l', hl, h⟩ := h
  split at h
  · rename_i hd
    split at h
    · rename_i hok
      simp only [Option.some.injEq, C.region.injEq] at h
      obtain ⟨rfl, rfl⟩ := h
      exact ⟨id, ops, by rw [hd], hl, fun _ => hok⟩
    · simp at h
  · rename_i hd
    simp only [Option.some.injEq, C.region.injEq] at h
    obtain ⟨rfl, rfl⟩ := h
    exact ⟨id, ops, by cases draw <;> simp_all, hl, by simp⟩
end
/-- A function of the library does what its contract says. -/
def ExtOK (P : Program) (N : Nam) (g : Nat) (e : Ext) : Prop :=
  (∃ rf, Real P (N.nm g) rf) ∧ ∀ args H n r H' n', extSem e args H n = some (r, H', n') → RawOK P N g args H n r H' n'
/-- The table of abstract functions is that of the program. -/
def TableOK (P : Program) (I : Inv) (N : Nam) (Γ : Nat → Option F) : Prop :=
  ∀ g fn, Γ g = some fn → (∃ rf rw L raw, P.funcs[N.nm g]? = some rf ∧ compF P I rw L raw rf = some fn) ∨ ∃ e, fn.body = .ext e ∧ ExtOK P N g e
theorem ext_frame {e : Ext} {args : List V} {H H' : Nat → Option O} {n n' : Nat} {r : V} (h : extSem e args H n = some (r, H', n')) : n ≤ n' ∧ ∀ k, k < n → H k = none → H' k = none := by
  unfold extSem at h
  split at h
  · cases h; exact ⟨Nat.le_refl _, fun _ _ h => h⟩
  · split at h
    · rename_i k len rs hk
      simp only [Option.bind_eq_some_iff] at h
      obtain ⟨zs, _, h⟩ := h
      split at h
      · cases h
        refine ⟨Nat.le_refl _, fun q _ hq => ?_⟩
        rw [upd_other]; exact hq
        rintro rfl; rw [hk] at hq; cases hq
      · cases h
    · cases h
  · cases h; exact ⟨Nat.le_refl _, fun _ _ h => h⟩
  · split at h
    · rename_i k len rs hk
      simp only [Option.bind_eq_some_iff] at h
      obtain ⟨zs, _, h⟩ := h
      split at h
      · cases h
        refine ⟨Nat.le_refl _, fun q _ hq => ?_⟩
        rw [upd_other]; exact hq
        rintro rfl; rw [hk] at hq; cases hq
      · cases h
    · cases h
  · cases h
def exOf : Ex → Exit
  | .normal => .normal
  | .exit id => .exit id
  | .ret => .ret
/-- How a run of code ends. -/
def Post (N : Nam) (c : Ctx) (ns : Nat) (ex : Ex) (s' : St) (e : Exit) (a' : Act) (w' : World) : Prop :=
  e = exOf ex ∧ ∃ A' μ' lam', Rel N c ns A' μ' lam' s' a' w'
def Fr (s s' : St) : Prop := s.nxt ≤ s'.nxt ∧ ∀ k, k < s.nxt → s.heap k = none → s'.heap k = none
/-- What the abstract machine's steps say of the machine. -/
def Good (P : Program) (I : Inv) (N : Nam) : Task → Out → Prop
  | .code cd s, .code ex s' => Fr s s' ∧ ∀ rw L k rc, compC P I rw L k rc = some cd → ∀ c ns A μ lam a w, k ≤ ns → Rel N c ns A μ lam s a w → rc.wp P (Post N c ns ex s') a w
  | .loop b s, .code ex s' => Fr s s' ∧ ∀ rw L k rc, compC P I rw L k rc = some b → ∀ c ns A μ lam a w, k ≤ ns → Rel N c ns A μ lam s a w →
      ∀ (b0 : Frame) (kk : List Item) (cs : List Frame), ∃ e a' w', Post N c ns ex s' e a' w' ∧ Arrives P (lone (b0.at a (.code rc :: .inLoop rc :: kk)) cs w) b0 kk cs e a' w'
  | .ops d p l s, .ops s' => ∀ full : List ROp, full.drop p = l → Run P N d full ((List.range l.length).map (p + ·)) s s'
  | .pcall g args, .val r => PureOK P N g args r
  | .rcall g args H n, .vals r H' n' => RawOK P N g args H n r H' n' ∧ n ≤ n' ∧ ∀ k, k < n → H k = none → H' k = none
  | _, _ => True
theorem Rel.grow {N : Nam} {c : Ctx} {ns : Nat} {A : Nat → Prop} {μ lam : Nat → Nat} {s : St} {a : Act} {w : World} (R : Rel N c ns A μ lam s a w) (n : Nat) : Rel N c ns A μ lam (s.begin n) a w :=
  { R with adr := fun t b o h => by simp [St.begin] at h, fresh := fun k h => R.fresh k (by simp only [St.begin] at h; omega) }
theorem run_free {P : Program} {N : Nam} {d : Bool} {l : List ROp} : ∀ {is : List Nat} {s s' : St}, Run P N d l is s s' → s'.bas = s.bas ∧ s.nxt ≤ s'.nxt ∧ ∀ k, k < s.nxt → (∀ i ∈ is, k ≠ s.bas + i) → s.heap k = none → s'.heap k = none
  | [], s, s', h => by cases h; exact ⟨rfl, Nat.le_refl _, fun _ _ _ h => h⟩
  | i :: is, s, s', h => by
    cases h with
    | cons hr h1 h2 =>
      obtain ⟨a1, a2, a3⟩ := h1.free
      obtain ⟨b1, b2, b3⟩ := run_free h2
      refine ⟨by rw [b1, a1], Nat.le_trans a2 b2, fun k hk hne hn => ?_⟩
      exact b3 k (by omega) (fun j hj => by rw [a1]; exact hne j (List.mem_cons_of_mem _ hj)) (a3 k hk (hne i List.mem_cons_self) hn)
theorem begin_fr {P : Program} {N : Nam} {d : Bool} {l : List ROp} {s s' : St} (h : Run P N d l (List.range l.length) (s.begin l.length) s') : Fr s s' := by
  obtain ⟨h1, h2, h3⟩ := run_free h
  simp only [St.begin] at h1 h2 h3
  refine ⟨by omega, fun k hk hn => h3 k (by omega) (fun i _ => by omega) hn⟩
theorem Post.then {P : Program} {N : Nam} {c : Ctx} {ns : Nat} {ex : Ex} {s1 s2 : St} {rc : Code} (h : ∀ A μ lam a w, Rel N c ns A μ lam s1 a w → rc.wp P (Post N c ns ex s2) a w) :
    ∀ e a w, Post N c ns .normal s1 e a w → Exit.then (rc.wp P (Post N c ns ex s2)) (Post N c ns ex s2) e a w := by
  rintro e a w ⟨rfl, A', μ', lam', R'⟩
  exact h A' μ' lam' a w R'
theorem reify_rep {N : Nam} {c : Ctx} {ns : Nat} {A : Nat → Prop} {μ lam : Nat → Nat} {s : St} {a : Act} {w : World} (R : Rel N c ns A μ lam s a w) {x y : V} {v : Value} (hr : RepV w A N.nm μ s.heap v x) (hy : reify s.heap x = some y) :
    RepV w (fun q => A q ∨ MBH s.heap μ q) N.nm (fun _ => 0) (fun _ => none) v y := by
  have hmono : ∀ q (l : List Nat), (A q ∨ ∃ k ∈ l, isRows s.heap k ∧ μ k = q) → A q ∨ MBH s.heap μ q := by
    rintro q l (h | ⟨k, _, ⟨sz, rs, f, hk⟩, rfl⟩)
    · exact .inl h
    · cases f with
      | true => exact .inl (R.afz k sz rs hk)
      | false => exact .inr ⟨k, _, hk, by simp, rfl, rfl⟩
  have one : ∀ {x y : V} {v : Value}, RepV w A N.nm μ s.heap v x → toT1 s.heap x = some y → RepV1 w (fun q => A q ∨ MBH s.heap μ q) N.nm (fun _ => 0) (fun _ => none) v y :=
    fun hr hy => (toT1_rep R.heap hy hr _ _).mono fun q h => hmono q _ h
  cases x with
  | tup cs =>
    simp only [reify, Option.map_eq_some_iff] at hy
    obtain ⟨ys, hys, rfl⟩ := hy
    obtain ⟨vs, rfl, hl, h⟩ := hr
    obtain ⟨m1, m2⟩ := mapM_some hys
    refine ⟨vs, rfl, by rw [hl, m1], fun i c hi => ?_⟩
    obtain ⟨z, hz, ht⟩ := m2 i c hi
    obtain ⟨u, hu, hur⟩ := h i z hz
    exact ⟨u, hu, one hur.toV ht⟩
  | _ => exact (one hr hy).toV
theorem big_sound {P : Program} {I : Inv} {N : Nam} {Γ : Nat → Option F} (hI : I.Ok N) (hT : TableOK P I N Γ) (hmix : P.follows .mixedOrders = true) {t : Task} {o : Out} (h : Big Γ N.G t o) : Good P I N t o := by
  have hreal : ∀ g fn, Γ g = some fn → (∀ e, fn.body ≠ .ext e) → ∃ rf rw L body b, P.funcs[N.nm g]? = some rf ∧ Real P (N.nm g) rf ∧ rf.body = some body ∧ compC P I rw L rf.ntmps body = some b ∧ fn.body = b ∧
      rf.results.toList.length = fn.results.length ∧ (∀ (i : Nat) (x : ResultVar) (y : Res), rf.results.toList[i]? = some x → fn.results[i]? = some y → resRel P x y) := by
    intro g fn hg hne
    obtain ⟨rf, rw, L, raw, h1, h2⟩ : ∃ rf rw L raw, P.funcs[N.nm g]? = some rf ∧ compF P I rw L raw rf = some fn := by
      rcases hT g fn hg with h | ⟨e, he, _⟩
      · exact h
      · exact absurd he (hne e)
    simp only [compF, Option.bind_eq_bind, Option.bind_eq_some_iff] at h2
    obtain ⟨body, hb, b, hc, rs, hrs, h2⟩ := h2
    split at h2
    · simp at h2
    · rename_i hn
      simp only [Option.some.injEq] at h2; subst h2
      obtain ⟨m1, m2⟩ := mapM_some hrs
      refine ⟨rf, rw, L, body, b, h1, ⟨h1, by rw [hb]; rfl, by simpa using hn⟩, hb, hc, rfl, m1, fun i x y hx hy => ?_⟩
      obtain ⟨x', hx', hr⟩ := m2 i y hy
      rw [hx] at hx'; cases hx'
      cases x with
      | tmp t => simp only [compRes, Option.some.injEq] at hr; subst hr; rfl
      | cell ad ty =>
        simp only [compRes, Option.bind_eq_bind, Option.bind_eq_some_iff, Prod.exists] at hr
        obtain ⟨ag, n, hty, hr⟩ := hr
        split at hr <;> simp only [Option.some.injEq] at hr <;> subst hr <;> exact ⟨rfl, hty⟩
  have hreal1 : ∀ g fn, Γ g = some fn → ∃ rf, Real P (N.nm g) rf := by
    intro g fn hg
    by_cases hx : ∀ e, fn.body ≠ .ext e
    · obtain ⟨rf, _, _, _, _, _, hre, _⟩ := hreal g fn hg hx
      exact ⟨rf, hre⟩
    · rcases hT g fn hg with ⟨rf, rw, L, raw, h1, h2⟩ | ⟨e, _, h⟩
      · exfalso
        refine hx fun e he => ?_
        simp only [compF, Option.bind_eq_bind, Option.bind_eq_some_iff] at h2
        obtain ⟨body, hb, b, hc, rs, hrs, h2⟩ := h2
        split at h2
        · simp at h2
        · simp only [Option.some.injEq] at h2; subst h2
          simp only at he; subst he
          exact comp_ext hc
      · exact h.1
  induction h with
  | skip =>
    refine ⟨⟨Nat.le_refl _, fun _ _ h => h⟩, fun rw L k rc hc c ns A μ lam a w _ R => ?_⟩
    rw [inv_skip hc]
    exact wp_skip ⟨rfl, A, μ, lam, R⟩
  | ret =>
    refine ⟨⟨Nat.le_refl _, fun _ _ h => h⟩, fun rw L k rc hc c ns A μ lam a w _ R => ?_⟩
    rw [inv_ret hc]
    exact wp_ret ⟨rfl, A, μ, lam, R⟩
  | exit =>
    refine ⟨⟨Nat.le_refl _, fun _ _ h => h⟩, fun rw L k rc hc c ns A μ lam a w _ R => ?_⟩
    rw [inv_exit hc]
    exact wp_exit ⟨rfl, A, μ, lam, R⟩
  | region h ih =>
    rename_i s s' d l
    have hrun := ih l rfl
    simp only [Nat.zero_add, List.map_id'] at hrun
    refine ⟨begin_fr hrun, fun rw L k rc hc c ns A μ lam a w hk R => ?_⟩
    obtain ⟨id, ops, rfl, hops, hdr⟩ := inv_region hc
    obtain ⟨h1, h2⟩ := compOps_spec P I hops
    have h2' : ∀ (i : Nat) (r : ROp), l[i]? = some r → ∃ o, ops.toList[i]? = some o ∧ OpRel P I ns ops o r := by
      intro i r hi
      obtain ⟨o, ho, hr⟩ := h2 i r hi
      refine ⟨o, ho, hr.dst, hr.op, fun x hx => Nat.lt_of_lt_of_le (hr.lt x hx) hk, ?_⟩
      have hg := hr.guard
      unfold compGuard at hg ⊢
      split at hg
      · exact hg
      · split at hg
        · split at hg
          · rename_i hlt
            simp only [Option.some.injEq] at hg
            simp only [Nat.lt_of_lt_of_le hlt hk, if_true, hg]
          · simp at hg
        · simp at hg
    have hfresh : ∀ i, i < l.length → (s.begin l.length).heap ((s.begin l.length).bas + i) = none ∧ (s.begin l.length).bas + i < (s.begin l.length).nxt := by
      intro i hi
      exact ⟨R.fresh _ (by simp [St.begin]), by simp only [St.begin]; omega⟩
    cases d with
    | false =>
      refine wp_region ?_
      have hsz : ops.size = l.length := by simpa using h1
      rw [hsz]
      exact run_sound hI ⟨h1, h2'⟩ _ hrun List.nodup_range (fun i hi => hfresh i (List.mem_range.1 hi)) (R.grow _) (fun a' w' A' μ' lam' R' => ⟨rfl, A', μ', lam', R'⟩)
    | true =>
      refine wp_region_draw fun t => ?_
      rw [hmix, Region.schedule, Bool.true_or, if_pos rfl]
      exact draw_sound hI ⟨h1, h2'⟩ (hdr rfl) _ hrun hfresh (R.grow _).drew (fun a' w' A' μ' lam' R' => ⟨rfl, A', μ', lam', R'⟩) t
  | seqN h1 h2 ih1 ih2 =>
    refine ⟨⟨Nat.le_trans ih1.1.1 ih2.1.1, fun k hk hn => ih2.1.2 k (Nat.lt_of_lt_of_le hk ih1.1.1) (ih1.1.2 k hk hn)⟩, fun rw L k rc hc c ns A μ lam a w hk R => ?_⟩
    obtain ⟨x, y, rfl, hx, hy⟩ := inv_seq hc
    refine wp_seq (wp_mono (ih1.2 rw L k x hx c ns A μ lam a w hk R) ?_)
    exact Post.then fun A μ lam a w R' => ih2.2 rw L k y hy c ns A μ lam a w hk R'
  | seqX h1 he ih1 =>
    rename_i e
    refine ⟨ih1.1, fun rw L k rc hc c ns A μ lam a w hk R => ?_⟩
    obtain ⟨x, y, rfl, hx, hy⟩ := inv_seq hc
    refine wp_seq (wp_mono (ih1.2 rw L k x hx c ns A μ lam a w hk R) ?_)
    rintro e' a' w' ⟨rfl, R'⟩
    cases e with
    | normal => exact absurd rfl he
    | exit id => exact ⟨rfl, R'⟩
    | ret => exact ⟨rfl, R'⟩
  | cond hc0 h ih =>
    refine ⟨ih.1, fun rw L k rc hc c ns A μ lam a w hk R => ?_⟩
    obtain ⟨c0, x, y, rfl, h0, hx, hy⟩ := inv_cond hc
    refine wp_cond (bool_eval hI R h0 hc0) (ih.2 rw L k _ ?_ c ns A μ lam a w hk R)
    split
    · exact hx
    · exact hy
  | block h ih =>
    rename_i id b e
    refine ⟨ih.1, fun rw L k rc hc c ns A μ lam a w hk R => ?_⟩
    obtain ⟨x, rfl, hx⟩ := inv_block hc
    refine wp_block (wp_mono (ih.2 rw L k x hx c ns A μ lam a w hk R) ?_)
    rintro e' a' w' ⟨rfl, R'⟩
    cases e with
    | normal => exact ⟨rfl, R'⟩
    | ret => exact ⟨rfl, R'⟩
    | exit id' =>
      simp only [exOf, Exit.inBlock]
      by_cases hid : id' = id
      · subst hid; simp only [if_true]; exact ⟨rfl, R'⟩
      · rw [if_neg hid, if_neg (by simpa using hid)]; exact ⟨rfl, R'⟩
  | loop h ih =>
    refine ⟨ih.1, fun rw L k rc hc c ns A μ lam a w hk R => ?_⟩
    obtain ⟨x, rfl, hx⟩ := inv_loop hc
    intro b0 kk cs
    obtain ⟨e, a', w', hp, harr⟩ := ih.2 rw L k x hx c ns A μ lam a w hk R b0 kk cs
    exact ⟨e, a', w', hp, .of_steps (.one step_loop) harr⟩
  | loopN h1 h2 ih1 ih2 =>
    refine ⟨⟨Nat.le_trans ih1.1.1 ih2.1.1, fun k hk hn => ih2.1.2 k (Nat.lt_of_lt_of_le hk ih1.1.1) (ih1.1.2 k hk hn)⟩, fun rw L k rc hc c ns A μ lam a w hk R b0 kk cs => ?_⟩
    obtain ⟨e, a1, w1, ⟨rfl, A', μ', lam', R'⟩, harr⟩ := ih1.2 rw L k rc hc c ns A μ lam a w hk R b0 (.inLoop rc :: kk) cs
    obtain ⟨e2, a2, w2, hp2, harr2⟩ := ih2.2 rw L k rc hc c ns A' μ' lam' a1 w1 hk R' b0 kk cs
    exact ⟨e2, a2, w2, hp2, .of_steps (Steps.trans harr (.one step_inLoop)) harr2⟩
  | loopX h1 he ih1 =>
    rename_i e
    refine ⟨ih1.1, fun rw L k rc hc c ns A μ lam a w hk R b0 kk cs => ?_⟩
    obtain ⟨e', a1, w1, ⟨rfl, R'⟩, harr⟩ := ih1.2 rw L k rc hc c ns A μ lam a w hk R b0 (.inLoop rc :: kk) cs
    refine ⟨_, a1, w1, ⟨rfl, R'⟩, ?_⟩
    cases e with
    | normal => exact absurd rfl he
    | exit id => exact .pass (x := .inLoop rc) rfl (fun _ _ => .inl (by simp [exOf])) harr
    | ret => exact .pass (x := .inLoop rc) rfl (fun _ _ => .inl (by simp [exOf])) harr
  | opsNil =>
    intro full _
    exact .nil
  | opsSkip hw hf h ih =>
    rename_i p s s' o l
    intro full hfull
    have hget : full[p]? = some o := by have := congrArg (·[0]?) hfull; simpa using this
    have hdrop : full.drop (p + 1) = l := by have := congrArg List.tail hfull; simpa using this
    have hr := ih full hdrop
    rw [List.length_cons, List.range_succ_eq_map, List.map_cons, List.map_map, Nat.add_zero]
    refine .cons hget (.skip hw hf) ?_
    have : (fun x => p + x) ∘ Nat.succ = fun x => p + 1 + x := by funext x; simp; omega
    rw [this]; exact hr
  | opsEff hw hf he h ih =>
    rename_i p s s' o l e
    intro full hfull
    have hget : full[p]? = some o := by have := congrArg (·[0]?) hfull; simpa using this
    have hdrop : full.drop (p + 1) = l := by have := congrArg List.tail hfull; simpa using this
    have hr := ih full hdrop
    rw [List.length_cons, List.range_succ_eq_map, List.map_cons, List.map_map, Nat.add_zero]
    refine .cons hget (.eff hw hf he) ?_
    have : (fun x => p + x) ∘ Nat.succ = fun x => p + 1 + x := by funext x; simp; omega
    rw [this]; exact hr
  | opsPure hw hf ho hfv hfn hg hr0 hvs hrs hc hd h ihc ih =>
    rename_i d p s s' o l f args fv g a b vs rs fn r
    intro full hfull
    have hget : full[p]? = some o := by have := congrArg (·[0]?) hfull; simpa using this
    have hdrop : full.drop (p + 1) = l := by have := congrArg List.tail hfull; simpa using this
    have hr := ih full hdrop
    obtain ⟨rf, hre⟩ := hreal1 g fn hg
    rw [List.length_cons, List.range_succ_eq_map, List.map_cons, List.map_map, Nat.add_zero]
    refine .cons hget (.pure hw hf ho hfv hfn hre hvs hrs ihc hd) ?_
    have : (fun x => p + x) ∘ Nat.succ = fun x => p + 1 + x := by funext x; simp; omega
    rw [this]; exact hr
  | opsRaw hw hf ho hfv hfn hg hr0 hvs hc h ihc ih =>
    rename_i d p s s' o l f args fv g a b vs fn r h' n'
    intro full hfull
    have hget : full[p]? = some o := by have := congrArg (·[0]?) hfull; simpa using this
    have hdrop : full.drop (p + 1) = l := by have := congrArg List.tail hfull; simpa using this
    have hr := ih full hdrop
    obtain ⟨rf, hre⟩ := hreal1 g fn hg
    rw [List.length_cons, List.range_succ_eq_map, List.map_cons, List.map_map, Nat.add_zero]
    refine .cons hget (.raw hw hf ho hfv hfn hre hvs ihc.1 ihc.2.1 ihc.2.2) ?_
    have : (fun x => p + x) ∘ Nat.succ = fun x => p + 1 + x := by funext x; simp; omega
    rw [this]; exact hr
  | opsFresh hw hf ho hfv hfn hg hr0 hvs hrs hd hc he h ihc ih =>
    rename_i d p s s' o l f args fv g a b vs rs fn r h' n' e
    intro full hfull
    have hget : full[p]? = some o := by have := congrArg (·[0]?) hfull; simpa using this
    have hdrop : full.drop (p + 1) = l := by have := congrArg List.tail hfull; simpa using this
    have hr := ih full hdrop
    obtain ⟨rf, hre⟩ := hreal1 g fn hg
    rw [List.length_cons, List.range_succ_eq_map, List.map_cons, List.map_map, Nat.add_zero]
    refine .cons hget (.fresh hw hf ho hfv hfn hre hvs hrs hd ihc.1 he) ?_
    have : (fun x => p + x) ∘ Nat.succ = fun x => p + 1 + x := by funext x; simp; omega
    rw [this]; exact hr
  | pcall hg hr0 h he hv hre ih =>
    rename_i g args fn s' e v r
    obtain ⟨rf, rw, L, body, b, hf, hrl, hb, hcomp, rfl, hl1, hl2⟩ := hreal g fn hg (fun e he => by rw [he] at h; cases h)
    intro A w vs hA hgl hargs
    have HR : Rel N ⟨w, fun _ => False, A, fun _ => none, fun _ => 0⟩ 0 A (fun _ => 0) (fun _ => 0) (.init [] (fun _ => none) 0) bareAct w :=
      { size := rfl, defers := rfl, env := fun t => by simp [St.init, initEnv, bareAct, RepV], loc := fun t cs h => by simp [St.init] at h, adr := fun t b o h => by simp [St.init] at h,
        heap := fun k o h => by simp [St.init] at h, hinj := fun k k' o o' h => by simp [St.init] at h, linj := fun t t' h => by simp [St.init] at h, lh := fun t k o h => by simp [St.init] at h,
        aH := fun r _ => by rintro ⟨k, o, h, _⟩; simp [St.init] at h, aL := fun r _ => by rintro ⟨t, h, _⟩; simp [St.init] at h, alt := hA, afz := fun k sz rs h => by simp [St.init] at h, fresh := fun _ _ => rfl,
        glob := hgl, cout := ⟨rfl, rfl⟩, csize := Nat.le_refl _, ckeep := fun _ _ _ => rfl, cshp := fun _ _ h => h, csub := fun _ h => h, canew := fun _ h => .inl h, clive := fun r => by rintro ⟨k, o, h, _⟩; simp [St.init] at h,
        cloc := fun t h => by simp [St.init] at h, chp := fun k o h => by simp at h }
    have R0 := rel_enter HR hargs rf.ntmps
    refine calls_of_wp hf hb (wp_mono (ih.2 rw L _ body hcomp _ _ A _ _ _ w (by simp; omega) R0) ?_)
    rintro e' a' w' ⟨rfl, A', μ', lam', R'⟩
    obtain ⟨v', hrun, hrep⟩ := res_all (P := P) R' hl1 hl2 hv
    have hfin : a'.defers = [] ∧ ∃ v, (results rf a'.tmps).run P w' = .ok v w' ∧ ∃ v_1, Ending.returned v = .returned v_1 ∧ (w'.os = w.os ∧ w'.output = w.output) ∧ w.heap.size ≤ w'.heap.size ∧ (∀ q, q < w.heap.size → w'.heap[q]? = w.heap[q]?) ∧
        RepV w' (fun q => A q ∨ (w.heap.size ≤ q ∧ q < w'.heap.size)) N.nm (fun _ => 0) (fun _ => none) v_1 r := by
      refine ⟨R'.defers, v', hrun, v', rfl, R'.cout, R'.csize, fun q hq => R'.ckeep q hq (fun h => h), (reify_rep R' hrep hre).mono ?_⟩
      rintro q (h | h)
      · rcases R'.canew q h with h1 | h1 | h1
        · exact .inl h1
        · exact h1.elim
        · exact .inr ⟨h1, R'.alt q h⟩
      · rcases R'.clive q h with h1 | h1
        · exact h1.elim
        · obtain ⟨k, o, hk, _, hl, rfl⟩ := h
          exact .inr ⟨h1, R'.lt_live hk hl⟩
    cases e with
    | normal => exact hfin
    | ret => exact hfin
    | exit id => exact absurd rfl (he id)
  | rcall hg hr0 h he hv ih =>
    rename_i g args fn s' e v hp n
    obtain ⟨rf, rw, L, body, b, hf, hrl, hb, hcomp, rfl, hl1, hl2⟩ := hreal g fn hg (fun e he => by rw [he] at h; cases h)
    refine ⟨?_, ih.1.1, ih.1.2⟩
    intro c A μ lam w vs HR hargs
    have R0 := rel_enter HR hargs rf.ntmps
    refine calls_of_wp hf hb (wp_mono (ih.2 rw L _ body hcomp _ _ A _ _ _ w (by simp; omega) R0) ?_)
    rintro e' a' w' ⟨rfl, A', μ', lam', R'⟩
    obtain ⟨v', hrun, hrep⟩ := res_all (P := P) R' hl1 hl2 hv
    have hfin : a'.defers = [] ∧ ∃ v0, (results rf a'.tmps).run P w' = .ok v0 w' ∧ ∃ v_1 A' μ' lam', Ending.returned v0 = .returned v_1 ∧ Rel N c 0 A' μ' lam' (.init [] s'.heap s'.nxt) bareAct w' ∧ RepV w' A' N.nm μ' s'.heap v_1 v :=
      ⟨R'.defers, v', hrun, v', A', μ', lam', rfl, rel_leave R', hrep⟩
    cases e with
    | normal => exact hfin
    | ret => exact hfin
    | exit id => exact absurd rfl (he id)
  | rext hg hr0 hb h =>
    rename_i g args fn e r hp h' n n'
    obtain ⟨f1, f2⟩ := ext_frame h
    refine ⟨?_, f1, f2⟩
    rcases hT g fn hg with ⟨rf, rw, L, raw, h1, h2⟩ | ⟨e', he', hx⟩
    · exfalso
      simp only [compF, Option.bind_eq_bind, Option.bind_eq_some_iff] at h2
      obtain ⟨body, _, b, hc, rs, hrs, h2⟩ := h2
      split at h2
      · simp at h2
      · simp only [Option.some.injEq] at h2; subst h2
        simp only at hb; subst hb
        exact comp_ext hc
    · rw [hb] at he'; cases he'
      exact hx.2 args hp n r h' n' h
end Rg
end
section
/- Rg, part V: conditions under which abstract code ends as asked. No condition. -/
namespace Rg
open Go
/-- What a slot holds: a value, a local box, an address in a local box. -/
structure Slot where
  v : V
  box : Option (List V)
  ad : Option (Nat × Nat)
structure M where
  sl : Nat → Slot
  used : Nat → Bool
  heap : Nat → Option O
  nxt : Nat
  bas : Nat
def M.st (m : M) : St := { env := fun t => (m.sl t).v, loc := fun t => (m.sl t).box, adr := fun t => (m.sl t).ad, used := m.used, heap := m.heap, nxt := m.nxt, bas := m.bas }
def beg (f : Nat → Slot) : Nat → Slot := fun t => { f t with ad := none }
def M.begin (m : M) (n : Nat) : M := { m with sl := beg m.sl, used := fun _ => false, bas := m.nxt, nxt := m.nxt + n }
theorem st_begin (m : M) (n : Nat) : m.st.begin n = (m.begin n).st := rfl
def setBox (f : Nat → Slot) : Option (Nat × List V) → Nat → Slot
  | none => f
  | some (b, cs) => upd f b { f b with box := some cs }
def M.apply (m : M) (dst : Option Nat) (e : Eff) : M :=
  { m with
    sl := match dst with | none => setBox m.sl e.wloc | some d => upd (setBox m.sl e.wloc) d ⟨e.val, e.loc, e.adr⟩
    used := match e.adr with | some (b, _) => upd m.used b true | none => m.used
    heap := hpUpd m.heap e.hp }
theorem st_apply (m : M) (dst : Option Nat) (e : Eff) : m.st.apply dst e = (m.apply dst e).st := by
  have hb : ∀ (f : Nat → Slot) (w : Option (Nat × List V)) (t : Nat), (setBox f w t).v = (f t).v ∧ (setBox f w t).ad = (f t).ad ∧
      (setBox f w t).box = (match w with | some (b, cs) => upd (fun t => (f t).box) b (some cs) | none => fun t => (f t).box) t := by
    intro f w t
    cases w with
    | none => simp [setBox]
    | some x =>
      obtain ⟨b, cs⟩ := x
      by_cases h : t = b
      · subst h; simp [setBox]
      · simp [setBox, upd, h]
  cases dst with
  | none =>
    simp only [St.apply, M.apply, M.st, St.mk.injEq, and_true]
    refine ⟨?_, ?_, ?_, rfl⟩
    · funext t; exact (hb m.sl e.wloc t).1.symm
    · funext t; exact (hb m.sl e.wloc t).2.2.symm
    · funext t; exact (hb m.sl e.wloc t).2.1.symm
  | some d =>
    simp only [St.apply, M.apply, M.st, St.mk.injEq, and_true]
    refine ⟨?_, ?_, ?_, rfl⟩
    · funext t
      by_cases h : t = d
      · subst h; simp
      · simp [upd, h, (hb m.sl e.wloc t).1]
    · funext t
      by_cases h : t = d
      · subst h; simp
      · rw [upd_other _ _ h, upd_other _ _ h]; exact (hb m.sl e.wloc t).2.2.symm
    · funext t
      by_cases h : t = d
      · subst h; simp
      · simp [upd, h, (hb m.sl e.wloc t).2.1]
def M.init (args : List V) (h : Nat → Option O) (n : Nat) : M :=
  { sl := fun t => ⟨initEnv args t, none, none⟩, used := fun _ => false, heap := h, nxt := n, bas := n }
theorem st_init (args : List V) (h : Nat → Option O) (n : Nat) : St.init args h n = (M.init args h n).st := rfl
def M.free (m : M) (dst : Option Nat) (e : Eff) : Bool :=
  match dst with
  | none => true
  | some d => !m.used d && (match e.adr with | none => true | some (b, _) => b != d)
theorem free_of {m : M} {dst : Option Nat} {e : Eff} (h : m.free dst e = true) : m.st.free dst e := by
  intro d hd
  subst hd
  simp only [M.free, Bool.and_eq_true, Bool.not_eq_true'] at h
  refine ⟨h.1, fun b o hb => ?_⟩
  rw [hb] at h
  simpa using h.2
section
variable (Γ : Nat → Option F) (G : Nat → List T)
/-- A call that leaves the heap as it is. -/
def PC (g : Nat) (args : List V) (r : V) : Prop := Big Γ G (.pcall g args) (.val r)
def RC (g : Nat) (args : List V) (h : Nat → Option O) (n : Nat) (r : V) (h' : Nat → Option O) (n' : Nat) : Prop := Big Γ G (.rcall g args h n) (.vals r h' n')
/-- The result of a pure call is put. -/
def putP (d : Bool) (m : M) (dst : Option Nat) (l : List V) (r : V) (K : M → Prop) : Prop :=
  if r.scalar then K (m.apply dst { val := r }) else (d = true → l.flatMap (reach1 m.heap) = []) ∧ K (m.apply dst { val := r, hp := freezes m.heap (l.flatMap (reach1 m.heap)) })
def callP (d : Bool) (m : M) (dst : Option Nat) (g : Nat) (l : List V) (K : M → Prop) : Prop :=
  m.free dst {} = true ∧ ∃ rs, l.mapM (toT1 m.heap) = some rs ∧ ∃ r, PC Γ G g rs r ∧ (∃ fn, Γ g = some fn ∧ fn.raw = false) ∧ putP d m dst l r K
def callR (m : M) (dst : Option Nat) (g : Nat) (l : List V) (K : M → Prop) : Prop :=
  m.free dst {} = true ∧ ∃ r h' n', RC Γ G g l m.heap m.nxt r h' n' ∧ (∃ fn, Γ g = some fn ∧ fn.raw = true) ∧ K ({ m with heap := h', nxt := n' }.apply dst { val := r })
/-- A call that gives a slice of its own. -/
def callF (p : Nat) (m : M) (dst : Option Nat) (g : Nat) (l : List V) (K : M → Prop) : Prop :=
  m.free dst {} = true ∧ l.flatMap (reach1 m.heap) = [] ∧ ∃ rs, l.mapM (toT1 m.heap) = some rs ∧ ∃ r h' n', RC Γ G g rs (fun _ => none) 0 r h' n' ∧ (∃ fn, Γ g = some fn ∧ fn.raw = true) ∧ ∃ e, ownR (m.bas + p) r h' = some e ∧ K (m.apply dst e)
def stepO (d : Bool) (p : Nat) (m : M) (dst : Option Nat) (op : AOp) (K : M → Prop) : Prop :=
  match op with
  | .call raw f args =>
    match (evl G m.st f).bind fnOf, evls G m.st args with
    | some (g, a, b), some vs => if raw then callR Γ G m dst g (a ++ vs ++ b) K else callP Γ G d m dst g (a ++ vs ++ b) K
    | _, _ => False
  | .fcall f args =>
    match (evl G m.st f).bind fnOf, evls G m.st args with
    | some (g, a, b), some vs => callF Γ G p m dst g (a ++ vs ++ b) K
    | _, _ => False
  | op => match aeval G p m.st op with
    | none => False
    | some e => m.free dst e = true ∧ K (m.apply dst e)
def wpO (d : Bool) : Nat → List ROp → M → (M → Prop) → Prop
  | _, [], m, Q => Q m
  | p, o :: l, m, Q =>
    match wants m.st o.guard with
    | none => False
    | some b => if b = true then stepO Γ G d p m o.dst o.op (fun m' => wpO d (p + 1) l m' Q) else m.free o.dst {} = true ∧ wpO d (p + 1) l (m.apply o.dst {}) Q
/-- Code ends as asked. -/
def W (c : C) (m : M) (Q : Ex → M → Prop) : Prop := ∃ e m', Big Γ G (.code c m.st) (.code e m'.st) ∧ Q e m'
def WL (c : C) (m : M) (Q : Ex → M → Prop) : Prop := ∃ e m', Big Γ G (.loop c m.st) (.code e m'.st) ∧ Q e m'
def WO (d : Bool) (p : Nat) (l : List ROp) (m : M) (Q : M → Prop) : Prop := ∃ m', Big Γ G (.ops d p l m.st) (.ops m'.st) ∧ Q m'
end
section
variable {Γ : Nat → Option F} {G : Nat → List T}
theorem WO_of {d : Bool} : ∀ {l : List ROp} {p : Nat} {m : M} {Q : M → Prop}, wpO Γ G d p l m Q → WO Γ G d p l m Q
  | [], p, m, Q, h => ⟨m, .opsNil, h⟩
  | o :: l, p, m, Q, h => by
    simp only [wpO] at h
    split at h
    · exact h.elim
    · rename_i b hw
      split at h
      · rename_i hb
        subst hb
        unfold stepO at h
        split at h
        · rename_i raw f args ho
          split at h
          · rename_i g a b vs hfv hvs
            simp only [Option.bind_eq_some_iff] at hfv
            obtain ⟨fv, hfv, hfn⟩ := hfv
            split at h
            · rename_i hraw
              subst hraw
              obtain ⟨hf, r, h', n', hc, ⟨fn, hg, hr⟩, hk⟩ := h
              obtain ⟨m', hB, hQ⟩ := WO_of hk
              refine ⟨m', .opsRaw hw (free_of hf) ho hfv hfn hg hr hvs hc ?_, hQ⟩
              rw [← st_apply] at hB
              exact hB
            · rename_i hraw
              have hraw : raw = false := by simpa using hraw
              subst hraw
              obtain ⟨hf, rs, hrs, r, hc, ⟨fn, hg, hr⟩, hk⟩ := h
              unfold putP at hk
              split at hk
              · rename_i hsc
                obtain ⟨m', hB, hQ⟩ := WO_of hk
                refine ⟨m', .opsPure hw (free_of hf) ho hfv hfn hg hr hvs hrs hc (fun _ => .inl hsc) ?_, hQ⟩
                rw [if_pos hsc, st_apply]
                exact hB
              · rename_i hsc
                obtain ⟨hd, hk⟩ := hk
                obtain ⟨m', hB, hQ⟩ := WO_of hk
                refine ⟨m', .opsPure hw (free_of hf) ho hfv hfn hg hr hvs hrs hc (fun h => .inr (hd h)) ?_, hQ⟩
                rw [if_neg hsc, st_apply]
                exact hB
          · exact h.elim
        · rename_i f args ho
          split at h
          · rename_i g a b vs hfv hvs
            simp only [Option.bind_eq_some_iff] at hfv
            obtain ⟨fv, hfv, hfn⟩ := hfv
            obtain ⟨hf, hrn, rs, hrs, r, h', n', hc, ⟨fn, hg, hr⟩, e, he, hk⟩ := h
            obtain ⟨m', hB, hQ⟩ := WO_of hk
            refine ⟨m', .opsFresh hw (free_of hf) ho hfv hfn hg hr hvs hrs hrn hc he ?_, hQ⟩
            rw [st_apply]
            exact hB
          · exact h.elim
        · split at h
          · exact h.elim
          · rename_i e he
            obtain ⟨hf, hk⟩ := h
            obtain ⟨m', hB, hQ⟩ := WO_of hk
            exact ⟨m', .opsEff hw (free_of hf) he (by rw [st_apply]; exact hB), hQ⟩
      · rename_i hb
        have hb : b = false := by simpa using hb
        subst hb
        obtain ⟨hf, hk⟩ := h
        obtain ⟨m', hB, hQ⟩ := WO_of hk
        exact ⟨m', .opsSkip hw (free_of hf) (by rw [st_apply]; exact hB), hQ⟩
theorem W_region {d : Bool} {l : List ROp} {m : M} {Q : Ex → M → Prop} (h : wpO Γ G d 0 l (m.begin l.length) (Q .normal)) : W Γ G (.region d l) m Q := by
  obtain ⟨m', hB, hQ⟩ := WO_of h
  exact ⟨.normal, m', .region (by rw [st_begin]; exact hB), hQ⟩
theorem W_skip {m : M} {Q : Ex → M → Prop} (h : Q .normal m) : W Γ G .skip m Q := ⟨_, _, .skip, h⟩
theorem W_ret {m : M} {Q : Ex → M → Prop} (h : Q .ret m) : W Γ G .ret m Q := ⟨_, _, .ret, h⟩
theorem W_exit {m : M} {id : Nat} {Q : Ex → M → Prop} (h : Q (.exit id) m) : W Γ G (.exit id) m Q := ⟨_, _, .exit, h⟩
/-- What is asked of the first of two parts. -/
def thenQ (K : M → Prop) (Q : Ex → M → Prop) : Ex → M → Prop
  | .normal, m => K m
  | e, m => Q e m
theorem W_seq {a b : C} {m : M} {Q : Ex → M → Prop} (h : W Γ G a m (thenQ (fun m' => W Γ G b m' Q) Q)) : W Γ G (.seq a b) m Q := by
  obtain ⟨e, m1, h1, hQ⟩ := h
  cases e with
  | normal => obtain ⟨e, m2, h2, hQ⟩ := hQ; exact ⟨e, m2, .seqN h1 h2, hQ⟩
  | exit id => exact ⟨_, m1, .seqX h1 (by simp), hQ⟩
  | ret => exact ⟨_, m1, .seqX h1 (by simp), hQ⟩
theorem W_cond {c : Opd} {a b : C} {m : M} {Q : Ex → M → Prop} {t : Bool} (hc : evBool G m.st c = some t) (h1 : t = true → W Γ G a m Q) (h2 : t = false → W Γ G b m Q) : W Γ G (.cond c a b) m Q := by
  cases t with
  | true => obtain ⟨e, m', h, hQ⟩ := h1 rfl; exact ⟨e, m', .cond hc h, hQ⟩
  | false => obtain ⟨e, m', h, hQ⟩ := h2 rfl; exact ⟨e, m', .cond hc h, hQ⟩
def blockQ (id : Nat) (Q : Ex → M → Prop) (e : Ex) (m : M) : Prop := Q (if e = .exit id then .normal else e) m
theorem W_block {id : Nat} {b : C} {m : M} {Q : Ex → M → Prop} (h : W Γ G b m (blockQ id Q)) : W Γ G (.block id b) m Q := by
  obtain ⟨e, m', h, hQ⟩ := h
  exact ⟨_, m', .block h, hQ⟩
theorem W_loop {b : C} {m : M} {Q : Ex → M → Prop} (h : WL Γ G b m Q) : W Γ G (.loop b) m Q := by
  obtain ⟨e, m', h, hQ⟩ := h
  exact ⟨e, m', .loop h, hQ⟩
theorem WL_step {b : C} {m : M} {Q : Ex → M → Prop} (h : W Γ G b m (thenQ (fun m' => WL Γ G b m' Q) Q)) : WL Γ G b m Q := by
  obtain ⟨e, m1, h1, hQ⟩ := h
  cases e with
  | normal => obtain ⟨e, m2, h2, hQ⟩ := hQ; exact ⟨e, m2, .loopN h1 h2, hQ⟩
  | exit id => exact ⟨_, m1, .loopX h1 (by simp), hQ⟩
  | ret => exact ⟨_, m1, .loopX h1 (by simp), hQ⟩
theorem W_mono {c : C} {m : M} {Q Q' : Ex → M → Prop} (h : W Γ G c m Q) (hq : ∀ e m', Q e m' → Q' e m') : W Γ G c m Q' := by
  obtain ⟨e, m', h, hQ⟩ := h
  exact ⟨e, m', h, hq _ _ hQ⟩
theorem PC_of {g : Nat} {args : List V} {fn : F} {r : V} (hg : Γ g = some fn) (hr : fn.raw = false)
    (h : W Γ G fn.body (.init args (fun _ => none) 0) (fun e m => (∀ id, e ≠ .exit id) ∧ ∃ v, resAll m.st fn.results = some v ∧ reify m.heap v = some r)) : PC Γ G g args r := by
  obtain ⟨e, m', hB, he, v, hv, hre⟩ := h
  exact .pcall hg hr hB he hv hre
end
end Rg
end
section
/- Rg, part W: what a loop leaves as it is. No condition. -/
namespace Rg
open Go
def rootOf (E : List (Nat × Nat)) (t : Nat) : Nat := (E.lookup t).getD t
def opWr (E : List (Nat × Nat)) (o : ROp) : List Nat :=
  o.dst.toList ++ (match o.op with | .storeL _ (.s t) _ => [rootOf E t] | _ => [])
def opE (E : List (Nat × Nat)) (o : ROp) : List (Nat × Nat) :=
  match o.dst with
  | none => E
  | some d => match o.op with
    | .faddrL _ (.s x) => (d, rootOf E x) :: E
    | .iaddrAL _ _ (.s x) _ => (d, rootOf E x) :: E
    | _ => (d, d) :: E
def opsIn (W : List Nat) : List (Nat × Nat) → List ROp → Bool
  | _, [] => true
  | E, o :: l => (opWr E o).all (W.contains ·) && opsIn W (opE E o) l
/-- Code writes slots of a list alone. -/
def C.wrIn (W : List Nat) : C → Bool
  | .skip | .ret | .exit _ | .ext _ => true
  | .region _ l => opsIn W [] l
  | .seq a b => a.wrIn W && b.wrIn W
  | .cond _ a b => a.wrIn W && b.wrIn W
  | .block _ b => b.wrIn W
  | .loop b => b.wrIn W
def AOp.noH : AOp → Bool
  | .allocH _ | .boxH _ _ | .bslice _ _ _ _ | .store _ _ _ | .mkslice _ _ _ _ _ | .append _ _ _ _ | .copy _ _ _ | .mkmap | .mapupd _ _ _ _ => false
  | .call r _ _ => !r
  | .fcall _ _ => false
  | _ => true
/-- Code does not write the heap, save that it may freeze. -/
def C.noH : C → Bool
  | .skip | .ret | .exit _ | .ext _ => true
  | .region _ l => l.all fun o => o.op.noH
  | .seq a b => a.noH && b.noH
  | .cond _ a b => a.noH && b.noH
  | .block _ b => b.noH
  | .loop b => b.noH
def SameOff (W : List Nat) (s s' : St) : Prop := ∀ t, W.contains t = false → s'.env t = s.env t ∧ s'.loc t = s.loc t
theorem SameOff.refl (W : List Nat) (s : St) : SameOff W s s := fun _ _ => ⟨rfl, rfl⟩
theorem SameOff.trans {W : List Nat} {a b c : St} (h1 : SameOff W a b) (h2 : SameOff W b c) : SameOff W a c :=
  fun t ht => ⟨(h2 t ht).1.trans (h1 t ht).1, (h2 t ht).2.trans (h1 t ht).2⟩
def RootOk (E : List (Nat × Nat)) (s : St) : Prop := ∀ t, (∀ b o, s.adr t = some (b, o) → rootOf E t = b) ∧ (s.adr t = none → s.env t = .lb → rootOf E t = t)
theorem refL_root {E : List (Nat × Nat)} {s : St} {t b o : Nat} (h : RootOk E s) (hr : refL s (.s t) = some (b, o)) : rootOf E t = b := by
  simp only [refL] at hr
  split at hr
  · rename_i r hr'
    simp only [Option.some.injEq] at hr
    subst hr
    exact (h t).1 b o hr'
  · rename_i hn
    split at hr
    · rename_i hl
      simp only [Option.some.injEq, Prod.mk.injEq] at hr
      obtain ⟨rfl, _⟩ := hr
      exact (h t).2 hn hl
    · simp at hr
theorem rootOf_cons (d x t : Nat) (E : List (Nat × Nat)) : rootOf ((d, x) :: E) t = if t = d then x else rootOf E t := by
  simp only [rootOf, List.lookup]
  by_cases h : t = d
  · subst h; simp
  · simp [h, beq_eq_false_iff_ne.2 h]
theorem sh_adr {G : Nat → List T} {p : Nat} {s : St} {op : AOp} {e : Eff} (h : aeval G p s op = some e) (hn : isAdr op = false) : e.adr = none := by
  cases op
  all_goals (try (simp [isAdr] at hn; done))
  all_goals simp only [aeval, Option.bind_eq_bind, Option.bind_eq_some_iff, Option.some.injEq, Prod.exists] at h
  all_goals (try (repeat (first | (obtain ⟨_, _, h⟩ := h) | split at h | (simp only [Option.bind_eq_some_iff, Option.some.injEq] at h))))
  all_goals (try (repeat (first | (obtain ⟨_, _, h⟩ := h) | split at h | (simp only [Option.bind_eq_some_iff, Option.some.injEq] at h))))
  all_goals (try (repeat (first | (obtain ⟨_, _, h⟩ := h) | split at h | (simp only [Option.bind_eq_some_iff] at h))))
  all_goals (try (simp at h; done))
  all_goals (try (obtain ⟨_, _, rfl⟩ := h))
  all_goals (try subst h)
  all_goals rfl
theorem refL_s {s : St} {x : Opd} {b o : Nat} (h : refL s x = some (b, o)) : ∃ t, x = .s t := by
  cases x with
  | s t => exact ⟨t, rfl⟩
  | c v => simp [refL] at h
  | g k => simp [refL] at h
theorem aeval_faddrL {G : Nat → List T} {p : Nat} {s : St} {off : Nat} {x : Opd} {e : Eff} {E : List (Nat × Nat)} (h : RootOk E s) (he : aeval G p s (.faddrL off x) = some e) :
    ∃ t o, x = .s t ∧ e.adr = some (rootOf E t, o) := by
  simp only [aeval, Option.bind_eq_bind, Option.bind_eq_some_iff, Option.some.injEq, Prod.exists] at he
  obtain ⟨b, o, hr, cs, hcs, rfl⟩ := he
  obtain ⟨t, rfl⟩ := refL_s hr
  exact ⟨t, o + off, rfl, by rw [refL_root h hr]⟩
theorem aeval_iaddrAL {G : Nat → List T} {p : Nat} {s : St} {len sz : Nat} {x i : Opd} {e : Eff} {E : List (Nat × Nat)} (h : RootOk E s) (he : aeval G p s (.iaddrAL len sz x i) = some e) :
    ∃ t o, x = .s t ∧ e.adr = some (rootOf E t, o) := by
  simp only [aeval, Option.bind_eq_bind, Option.bind_eq_some_iff, Prod.exists] at he
  obtain ⟨n, hn, b, o, hr, cs, hcs, he⟩ := he
  obtain ⟨t, rfl⟩ := refL_s hr
  split at he
  · simp only [Option.some.injEq] at he
    subst he
    exact ⟨t, o + n.toNat * sz, rfl, by rw [refL_root h hr]⟩
  · simp at he
theorem aeval_wloc {G : Nat → List T} {p : Nat} {s : St} {op : AOp} {e : Eff} {E : List (Nat × Nat)} {b : Nat} {cs : List V} (h : RootOk E s) (he : aeval G p s op = some e) (hb : e.wloc = some (b, cs)) :
    ∃ n t v, op = .storeL n (.s t) v ∧ rootOf E t = b := by
  by_cases hw : op.wrL = true
  · cases op <;> simp [AOp.wrL] at hw
    rename_i n x v
    simp only [aeval, Option.bind_eq_bind, Option.bind_eq_some_iff, Prod.exists] at he
    obtain ⟨b', o, hr, cs', hcs', v', hv', new, hnew, he⟩ := he
    split at he
    · simp only [Option.bind_eq_some_iff, Option.some.injEq] at he
      obtain ⟨cs2, hcs2, rfl⟩ := he
      simp only [Option.some.injEq, Prod.mk.injEq] at hb
      obtain ⟨rfl, _⟩ := hb
      obtain ⟨t, rfl⟩ := refL_s hr
      exact ⟨n, t, v, rfl, refL_root h hr⟩
    · simp at he
  · have := sh_wloc he (by simpa using hw)
    rw [this] at hb; simp at hb
/-- An effect keeps to the list, and the roots stay right. -/
theorem apply_off {G : Nat → List T} {p : Nat} {s : St} {o : ROp} {e : Eff} {E : List (Nat × Nat)} {W : List Nat} (h : RootOk E s) (he : aeval G p s o.op = some e) (hw : (opWr E o).all (W.contains ·) = true) :
    SameOff W s (s.apply o.dst e) ∧ RootOk (opE E o) (s.apply o.dst e) := by
  have hall : ∀ x ∈ opWr E o, W.contains x = true := by simpa using hw
  constructor
  · intro t ht
    have hd : ∀ d, o.dst = some d → t ≠ d := by
      rintro d hd rfl
      have := hall t (by simp [opWr, hd])
      rw [this] at ht; simp at ht
    have hwl : ∀ b cs, e.wloc = some (b, cs) → t ≠ b := by
      rintro b cs hb rfl
      obtain ⟨n, t', v, ho, hr⟩ := aeval_wloc h he hb
      have := hall t (by simp [opWr, ho, hr])
      rw [this] at ht; simp at ht
    have hbase : (match e.wloc with | some (b, cs) => upd s.loc b (some cs) | none => s.loc) t = s.loc t := by
      cases hq : e.wloc with
      | none => rfl
      | some x => obtain ⟨b, cs⟩ := x; exact upd_other _ _ (hwl b cs hq)
    cases hdst : o.dst with
    | none => exact ⟨rfl, hbase⟩
    | some d => exact ⟨upd_other _ _ (hd d hdst), by simp only [St.apply]; rw [upd_other _ _ (hd d hdst)]; exact hbase⟩
  · intro t
    cases hdst : o.dst with
    | none => simp only [opE, hdst]; exact h t
    | some d =>
      by_cases htd : t = d
      · subst htd
        simp only [opE, hdst, St.apply, upd_same]
        by_cases ha : isAdr o.op = true
        · cases hop : o.op <;> rw [hop] at ha <;> simp [isAdr] at ha
          · rw [hop] at he
            obtain ⟨t', o', rfl, hadr⟩ := aeval_faddrL h he
            simp only [rootOf_cons, hadr]
            exact ⟨fun b o hb => by simp only [Option.some.injEq, Prod.mk.injEq] at hb; exact hb.1, by simp⟩
          · rw [hop] at he
            obtain ⟨t', o', rfl, hadr⟩ := aeval_iaddrAL h he
            simp only [rootOf_cons, hadr]
            exact ⟨fun b o hb => by simp only [Option.some.injEq, Prod.mk.injEq] at hb; exact hb.1, by simp⟩
        · have hn := sh_adr he (by simpa using ha)
          rw [hn]
          refine ⟨by simp, fun _ _ => ?_⟩
          split
          · rename_i hx; rw [hx] at ha; simp [isAdr] at ha
          · rename_i hx; rw [hx] at ha; simp [isAdr] at ha
          · simp [rootOf_cons]
      · have h1 : (s.apply (some d) e).adr t = s.adr t := upd_other _ _ htd
        have h2 : (s.apply (some d) e).env t = s.env t := upd_other _ _ htd
        have h3 : rootOf (opE E o) t = rootOf E t := by
          simp only [opE, hdst]
          split <;> simp [rootOf_cons, htd]
        rw [h1, h2, h3]; exact h t
/-- An effect that puts a value alone. -/
theorem put_off {s : St} {o : ROp} {v : V} {hp : List (Nat × O)} {E : List (Nat × Nat)} {W : List Nat} (h : RootOk E s) (hv : v ≠ .lb ∨ isAdr o.op = false) (hw : (opWr E o).all (W.contains ·) = true) :
    SameOff W s (s.apply o.dst { val := v, hp := hp }) ∧ RootOk (opE E o) (s.apply o.dst { val := v, hp := hp }) := by
  have hall : ∀ x ∈ opWr E o, W.contains x = true := by simpa using hw
  constructor
  · intro t ht
    have hd : ∀ d, o.dst = some d → t ≠ d := by
      rintro d hd rfl
      have := hall t (by simp [opWr, hd])
      rw [this] at ht; simp at ht
    cases hdst : o.dst with
    | none => exact ⟨rfl, rfl⟩
    | some d => exact ⟨upd_other _ _ (hd d hdst), by simp only [St.apply]; rw [upd_other _ _ (hd d hdst)]⟩
  · intro t
    cases hdst : o.dst with
    | none => simp only [opE, hdst]; exact h t
    | some d =>
      by_cases htd : t = d
      · subst htd
        simp only [St.apply, upd_same]
        refine ⟨by simp, fun _ h => ?_⟩
        rcases hv with hv | hv
        · exact absurd h hv
        · simp only [opE, hdst]
          split
          · rename_i hx; rw [hx] at hv; simp [isAdr] at hv
          · rename_i hx; rw [hx] at hv; simp [isAdr] at hv
          · simp [rootOf_cons]
      · have h1 : (s.apply (some d) { val := v, hp := hp }).adr t = s.adr t := upd_other _ _ htd
        have h2 : (s.apply (some d) { val := v, hp := hp }).env t = s.env t := upd_other _ _ htd
        have h3 : rootOf (opE E o) t = rootOf E t := by
          simp only [opE, hdst]
          split <;> simp [rootOf_cons, htd]
        rw [h1, h2, h3]; exact h t
theorem begin_off (W : List Nat) (s : St) (n : Nat) : SameOff W s (s.begin n) ∧ RootOk [] (s.begin n) :=
  ⟨fun _ _ => ⟨rfl, rfl⟩, fun t => ⟨fun b o h => by simp [St.begin] at h, fun _ _ => by simp [rootOf]⟩⟩
/-- What a task leaves as it is. -/
def Keeps (W : List Nat) : Task → Out → Prop
  | .code c s, .code _ s' => c.wrIn W = true → SameOff W s s'
  | .loop c s, .code _ s' => c.wrIn W = true → SameOff W s s'
  | .ops _ _ l s, .ops s' => ∀ E, RootOk E s → opsIn W E l = true → SameOff W s s'
  | _, _ => True
theorem big_keeps {Γ : Nat → Option F} {G : Nat → List T} {W : List Nat} {t : Task} {o : Out} (h : Big Γ G t o) : Keeps W t o := by
  induction h with
  | skip => intro _; exact .refl _ _
  | ret => intro _; exact .refl _ _
  | exit => intro _; exact .refl _ _
  | region h ih => intro hw; exact (begin_off W _ _).1.trans (ih [] (begin_off W _ _).2 hw)
  | seqN h1 h2 ih1 ih2 =>
    intro hw
    simp only [C.wrIn, Bool.and_eq_true] at hw
    exact (ih1 hw.1).trans (ih2 hw.2)
  | seqX h1 he ih1 =>
    intro hw
    simp only [C.wrIn, Bool.and_eq_true] at hw
    exact ih1 hw.1
  | cond hc h ih =>
    rename_i t
    intro hw
    simp only [C.wrIn, Bool.and_eq_true] at hw
    cases t with
    | true => exact ih hw.1
    | false => exact ih hw.2
  | block h ih => intro hw; exact ih hw
  | loop h ih => intro hw; exact ih hw
  | loopN h1 h2 ih1 ih2 => intro hw; exact (ih1 hw).trans (ih2 hw)
  | loopX h1 he ih1 => intro hw; exact ih1 hw
  | opsNil => intro E _ _; exact .refl _ _
  | opsSkip hw hf h ih =>
    intro E hE hin
    simp only [opsIn, Bool.and_eq_true] at hin
    obtain ⟨h1, h2⟩ := put_off (v := .undef) (hp := []) hE (.inl (by simp)) hin.1
    exact h1.trans (ih _ h2 hin.2)
  | opsEff hw hf he h ih =>
    intro E hE hin
    simp only [opsIn, Bool.and_eq_true] at hin
    obtain ⟨h1, h2⟩ := apply_off hE he hin.1
    exact h1.trans (ih _ h2 hin.2)
  | opsPure hw hf ho hfv hfn hg hr0 hvs hrs hc hd h ihc ih =>
    intro E hE hin
    simp only [opsIn, Bool.and_eq_true] at hin
    obtain ⟨h1, h2⟩ := put_off hE (.inr (by rw [ho]; rfl)) hin.1
    exact h1.trans (ih _ h2 hin.2)
  | opsRaw hw hf ho hfv hfn hg hr0 hvs hc h ihc ih =>
    rename_i d p s s' o l f args fv g a b vs fn r h' n'
    intro E hE hin
    simp only [opsIn, Bool.and_eq_true] at hin
    have hE' : RootOk E { s with heap := h', nxt := n' } := hE
    obtain ⟨h1, h2⟩ := put_off (v := r) (hp := []) hE' (.inr (by rw [ho]; rfl)) hin.1
    have h3 : SameOff W s { s with heap := h', nxt := n' } := fun _ _ => ⟨rfl, rfl⟩
    exact h3.trans (h1.trans (ih _ h2 hin.2))
  | opsFresh hw hf ho hfv hfn hg hr0 hvs hrs hd hc he h ihc ih =>
    rename_i e
    intro E hE hin
    simp only [opsIn, Bool.and_eq_true] at hin
    obtain ⟨s1, s2, s3⟩ := ownR_shape he
    obtain ⟨ev, ea, el, ew, eh⟩ := e
    simp only at s1 s2 s3
    subst s1; subst s2; subst s3
    obtain ⟨h1, h2⟩ := put_off hE (.inr (by rw [ho]; rfl)) hin.1
    exact h1.trans (ih _ h2 hin.2)
  | pcall => trivial
  | rcall => trivial
  | rext => trivial
/-- How the heap of a task that does not write it may change. -/
def Frozen (h h' : Nat → Option O) : Prop := ∀ k, (h k = none → h' k = none) ∧ ∀ o, h k = some o → h' k = some o ∨ ∃ sz rs b, o = .rows sz rs b ∧ h' k = some (.rows sz rs true)
theorem Frozen.refl (h : Nat → Option O) : Frozen h h := fun _ => ⟨fun h => h, fun _ h => .inl h⟩
theorem Frozen.trans {a b c : Nat → Option O} (h1 : Frozen a b) (h2 : Frozen b c) : Frozen a c := fun k => ⟨fun h => (h2 k).1 ((h1 k).1 h), fun o h => by
  rcases (h1 k).2 o h with hq | ⟨sz, rs, z, rfl, hq⟩
  · exact (h2 k).2 o hq
  · rcases (h2 k).2 _ hq with hr | ⟨sz', rs', z', hb, hr⟩
    · exact .inr ⟨sz, rs, z, rfl, hr⟩
    · cases hb; exact .inr ⟨sz, rs, z, rfl, hr⟩⟩
theorem freezes_frozen (h : Nat → Option O) (l : List Nat) : Frozen h (hpUpd h (freezes h l)) := by
  have key : ∀ (l : List Nat) (g : Nat → Option O), Frozen h g → Frozen h (hpUpd g (freezes h l)) := by
    intro l
    induction l with
    | nil => intro g hg; exact hg
    | cons x l ih =>
      intro g hg
      cases hx : h x with
      | none => simpa [freezes, hx] using ih g hg
      | some o =>
        cases o with
        | rows sz rs b =>
          have : freezes h (x :: l) = (x, .rows sz rs true) :: freezes h l := by simp [freezes, hx]
          rw [this]
          simp only [hpUpd]
          refine ih _ fun k => ?_
          by_cases hk : k = x
          · subst hk
            refine ⟨fun hn => by simp [hx] at hn, fun o ho => ?_⟩
            rw [hx] at ho; cases ho
            exact .inr ⟨sz, rs, b, rfl, by simp⟩
          · rw [upd_other _ _ hk]; exact hg k
        | map es => simpa [freezes, hx] using ih g hg
        | dead => simpa [freezes, hx] using ih g hg
  exact key l h (.refl h)
theorem noH_hp {G : Nat → List T} {p : Nat} {s : St} {op : AOp} {e : Eff} (h : aeval G p s op = some e) (hn : op.noH = true) : e.hp = [] := by
  cases op
  all_goals (try (simp [AOp.noH] at hn; done))
  all_goals simp only [aeval, Option.bind_eq_bind, Option.bind_eq_some_iff, Option.some.injEq, Prod.exists] at h
  all_goals (try (repeat (first | (obtain ⟨_, _, h⟩ := h) | split at h | (simp only [Option.bind_eq_some_iff, Option.some.injEq] at h))))
  all_goals (try (repeat (first | (obtain ⟨_, _, h⟩ := h) | split at h | (simp only [Option.bind_eq_some_iff, Option.some.injEq] at h))))
  all_goals (try (repeat (first | (obtain ⟨_, _, h⟩ := h) | split at h | (simp only [Option.bind_eq_some_iff] at h))))
  all_goals (try (simp at h; done))
  all_goals (try (obtain ⟨_, _, rfl⟩ := h))
  all_goals (try subst h)
  all_goals rfl
def KeepsH : Task → Out → Prop
  | .code c s, .code _ s' => c.noH = true → Frozen s.heap s'.heap
  | .loop c s, .code _ s' => c.noH = true → Frozen s.heap s'.heap
  | .ops _ _ l s, .ops s' => (l.all fun o => o.op.noH) = true → Frozen s.heap s'.heap
  | _, _ => True
theorem big_keepsH {Γ : Nat → Option F} {G : Nat → List T} {t : Task} {o : Out} (h : Big Γ G t o) : KeepsH t o := by
  induction h with
  | skip => intro _; exact .refl _
  | ret => intro _; exact .refl _
  | exit => intro _; exact .refl _
  | region h ih => intro hw; exact ih hw
  | seqN h1 h2 ih1 ih2 =>
    intro hw
    simp only [C.noH, Bool.and_eq_true] at hw
    exact (ih1 hw.1).trans (ih2 hw.2)
  | seqX h1 he ih1 =>
    intro hw
    simp only [C.noH, Bool.and_eq_true] at hw
    exact ih1 hw.1
  | cond hc h ih =>
    rename_i t
    intro hw
    simp only [C.noH, Bool.and_eq_true] at hw
    cases t with
    | true => exact ih hw.1
    | false => exact ih hw.2
  | block h ih => intro hw; exact ih hw
  | loop h ih => intro hw; exact ih hw
  | loopN h1 h2 ih1 ih2 => intro hw; exact (ih1 hw).trans (ih2 hw)
  | loopX h1 he ih1 => intro hw; exact ih1 hw
  | opsNil => intro _; exact .refl _
  | opsSkip hw hf h ih =>
    intro hin
    simp only [List.all_cons, Bool.and_eq_true] at hin
    exact ih hin.2
  | opsEff hw hf he h ih =>
    intro hin
    simp only [List.all_cons, Bool.and_eq_true] at hin
    have := ih hin.2
    simp only [St.apply, noH_hp he hin.1, hpUpd] at this
    exact this
  | opsPure hw hf ho hfv hfn hg hr0 hvs hrs hc hd h ihc ih =>
    rename_i d p s s' o l f args fv g a b vs rs fn r
    intro hin
    simp only [List.all_cons, Bool.and_eq_true] at hin
    have h2 := ih hin.2
    simp only [St.apply] at h2
    refine Frozen.trans ?_ h2
    split
    · exact .refl _
    · exact freezes_frozen _ _
  | opsRaw hw hf ho hfv hfn hg hr0 hvs hc h ihc ih =>
    intro hin
    simp only [List.all_cons, Bool.and_eq_true] at hin
    rw [ho] at hin
    simp [AOp.noH] at hin
  | opsFresh hw hf ho hfv hfn hg hr0 hvs hrs hd hc he h ihc ih =>
    intro hin
    simp only [List.all_cons, Bool.and_eq_true] at hin
    rw [ho] at hin
    simp [AOp.noH] at hin
  | pcall => trivial
  | rcall => trivial
  | rext => trivial
theorem Frozen.none {h' : Nat → Option O} (h : Frozen (fun _ => Option.none) h') : h' = fun _ => Option.none := by
  funext k; exact (h k).1 rfl
/-- Slots after code that keeps to a list. -/
def ovr (W : List Nat) (f g : Nat → Slot) : Nat → Slot := fun t => { v := if W.contains t then (f t).v else (g t).v, box := if W.contains t then (f t).box else (g t).box, ad := (f t).ad }
theorem ovr_v (W : List Nat) (f g : Nat → Slot) (t : Nat) : (ovr W f g t).v = if W.contains t then (f t).v else (g t).v := rfl
theorem ovr_box (W : List Nat) (f g : Nat → Slot) (t : Nat) : (ovr W f g t).box = if W.contains t then (f t).box else (g t).box := rfl
theorem ovr_eq {W : List Nat} {m m' : M} (h : SameOff W m.st m'.st) : m' = ⟨ovr W m'.sl m.sl, m'.used, m'.heap, m'.nxt, m'.bas⟩ := by
  have : m'.sl = ovr W m'.sl m.sl := by
    funext t
    cases hc : W.contains t with
    | true => simp only [ovr, hc, if_true]
    | false =>
      obtain ⟨h1, h2⟩ := h t hc
      have h1' : (m'.sl t).v = (m.sl t).v := h1
      have h2' : (m'.sl t).box = (m.sl t).box := h2
      simp only [ovr, hc, Bool.false_eq_true, if_false, ← h1', ← h2']
  rw [← this]
section
variable {Γ : Nat → Option F} {G : Nat → List T}
/-- A loop with an invariant; n counts down. -/
theorem WL_inv {b : C} {m : M} {Q : Ex → M → Prop} (W : List Nat) (hW : b.wrIn W = true) (Inv : Nat → (Nat → Slot) → (Nat → Option O) → Nat → Prop) (n : Nat)
    (h0 : Inv n m.sl m.heap m.nxt)
    (h : ∀ n f u h k bs, Inv n f h k → Rg.W Γ G b ⟨ovr W f m.sl, u, h, k, bs⟩ (thenQ (fun m' => ∃ n', n' < n ∧ Inv n' m'.sl m'.heap m'.nxt) Q)) : WL Γ G b m Q := by
  have key : ∀ (n : Nat) (m' : M), SameOff W m.st m'.st → Inv n m'.sl m'.heap m'.nxt → WL Γ G b m' Q := by
    intro n
    induction n using Nat.strongRecOn with
    | _ n ih =>
      intro m' hs hi
      refine WL_step ?_
      have h1 := h n m'.sl m'.used m'.heap m'.nxt m'.bas hi
      rw [← ovr_eq hs] at h1
      obtain ⟨e, m1, hB, hQ⟩ := h1
      refine ⟨e, m1, hB, ?_⟩
      cases e with
      | normal =>
        obtain ⟨k, hk, hi'⟩ := hQ
        exact ih k hk m1 (hs.trans (big_keeps hB hW)) hi'
      | exit id => exact hQ
      | ret => exact hQ
  exact key n m (.refl _ _) h0
/-- The same, where the heap is empty and stays so. -/
theorem WL_inv0 {b : C} {sl : Nat → Slot} {us : Nat → Bool} {nx ba : Nat} {Q : Ex → M → Prop} (W : List Nat) (hW : b.wrIn W = true) (hH : b.noH = true) (Inv : Nat → (Nat → Slot) → Prop) (n : Nat)
    (h0 : Inv n sl)
    (h : ∀ n f u k bs, Inv n f → Rg.W Γ G b ⟨ovr W f sl, u, fun _ => none, k, bs⟩ (thenQ (fun m' => ∃ n', n' < n ∧ Inv n' m'.sl) Q)) : WL Γ G b ⟨sl, us, fun _ => none, nx, ba⟩ Q := by
  refine WL_inv W hW (fun n f hp _ => Inv n f ∧ hp = fun _ => none) n ⟨h0, rfl⟩ ?_
  rintro n f u hp k bs ⟨hi, rfl⟩
  obtain ⟨e, m1, hB, hQ⟩ := h n f u k bs hi
  refine ⟨e, m1, hB, ?_⟩
  have hf := Frozen.none (big_keepsH hB hH)
  cases e with
  | normal => obtain ⟨k, hk, hi'⟩ := hQ; exact ⟨k, hk, hi', hf⟩
  | exit id => exact hQ
  | ret => exact hQ
end
end Rg
end
