/- Part of the proof of the laws of the package relyguardlaw11: an abstract machine for the program's functions, what they compute, and that the machine is the program's. No condition. (H11q H11r H11s H11t H12a H12b H12c H12d H13a H13b H14a H14b H15a H15b H15c H15d H15e) -/
import Derived.Test.YtnfmmdkonagnaaaGreatDoorPartAX
section
-- FULL
/- Rh: layer 11: small cases. No condition. -/
set_option linter.unusedSimpArgs false
set_option linter.unusedVariables false
namespace Rg
open Go
/-- The strings and lists of a program that are in memory. -/
structure Prog.lite (p : Prog) : Prop where
  steps : ∀ x ∈ p.threads, x.steps.length < 2 ^ 50
  cname : ∀ c ∈ p.cells, c.name.size < 2 ^ 50
  mname : ∀ m ∈ p.modules, m.name.size < 2 ^ 50 ∧ m.owner.size < 2 ^ 50
  tname : ∀ t ∈ p.threads, t.name.size < 2 ^ 50
theorem fewGo_mem {l : List Thread} : ∀ {n : Int}, fewGo n l = true → 0 ≤ n → ∀ x ∈ l, x.steps.length ≤ 24 ∧ x.asserts.length ≤ 48 ∧ x.modules.length ≤ 48 ∧ x.loops.length ≤ 8 ∧ fewT x = true := by
  induction l with
  | nil => intro n _ _ x hx; simp at hx
  | cons y r ih =>
    intro n h hn x hx
    rw [fewGo] at h
    split at h
    · simp at h
    · rename_i h0
      simp only [not_or, Bool.not_eq_false] at h0
      rcases List.mem_cons.1 hx with rfl | hx
      · refine ⟨by omega, by omega, by omega, by omega, h0.2.2.2.2⟩
      · exact ih h (by omega) x hx
theorem few_sane {p : Prog} (hl : p.lite) (h : fewM p = true) : p.sane := by
  simp only [fewM, Bool.and_eq_true, decide_eq_true_eq, List.all_eq_true] at h
  obtain ⟨⟨⟨⟨⟨⟨h1, h2⟩, h3⟩, h4⟩, h5⟩, h6⟩, h7⟩ := h
  have ht := fewGo_mem h5 (by omega)
  refine ⟨by omega, by omega, by omega, by omega, hl.cname, ?_, ?_, ?_, ?_⟩
  · intro m hm
    have := h6 m hm
    simp only [fewC, Bool.and_eq_true, decide_eq_true_eq] at this
    exact ⟨(hl.mname m hm).1, (hl.mname m hm).2, by omega⟩
  · intro t hm
    obtain ⟨a, b, c, d, _⟩ := ht t hm
    exact ⟨hl.tname t hm, by omega, by omega, by omega, by omega⟩
  · intro t hm s hs
    obtain ⟨_, _, _, _, e⟩ := ht t hm
    simp only [fewT, Bool.and_eq_true, List.all_eq_true, fewS, decide_eq_true_eq] at e
    have := e.1.1 s hs
    omega
  · intro t hm l hll
    obtain ⟨_, _, _, _, e⟩ := ht t hm
    simp only [fewT, Bool.and_eq_true, List.all_eq_true, fewL, decide_eq_true_eq] at e
    have := e.2 l hll
    omega
def goodM (p : Prog) : Bool := fewM p && formedM p
theorem good_den (p : Prog) (hl : p.lite) : Den Γ G 16 [(.agg [.t (.sl ((p).cells.map (Cell.enc))), .t (.sl ((p).modules.map (Contract.enc))), .t (.sl ((p).locks.map (Lock.enc))), .t (.sl ((p).threads.map (Thread.enc)))])] = some (vb (goodM p)) := by
  (refine den_ofY Γ16 rfl ?_; dsimp only [f16])
  have h1 := fewM_den p hl.steps
  simp -dsimp -implicitDefEqProofs [go_sem, h1]
  cases hf : fewM p
  · simp -dsimp -implicitDefEqProofs [go_sem, goodM, hf]
  · have h2 := formedR_den p (few_sane hl hf)
    simp -dsimp -implicitDefEqProofs [go_sem, goodM, hf, h2]
end Rg
end
section
/- Rh: layer 11: machine and reference agree at one configuration. No condition. -/
set_option linter.unusedSimpArgs false
set_option linter.unusedVariables false
namespace Rg
open Go
theorem next_buf {p : Prog} {c : Config} {x : Choice} : ∀ l ∈ (nextM p c x).1.buf, entriesSane l := by
  have hz : ∀ (b : Config), (∀ l ∈ b.buf, l = []) → ∀ l ∈ b.buf, entriesSane l := fun b h l hl => by
    rw [h l hl]; exact ⟨by simp, by simp⟩
  apply hz
  unfold nextM execM execS zeroC
  repeat' split
  all_goals simp
end Rg
end
section
/- Rh: layer 11: the first law. No condition. -/
set_option linter.unusedSimpArgs false
set_option linter.unusedVariables false
namespace Rg
open Go
theorem walkGo_sane {p : Prog} (hs : p.sane) : ∀ (l : List Int) (c : Config), c.sane → (walkGo p c l).sane
  | [], c, h => h
  | k :: r, c, h => by
    rw [walkGo]
    split
    · exact h
    · exact walkGo_sane hs r _ (next_sane hs h _)
theorem walk_sane {p : Prog} (hs : p.sane) (l : List Int) : (walkM p l).sane := walkGo_sane hs l _ (start_sane hs)
end Rg
end
section
/- Rh: layer 11: configurations that are reached are configurations of the program. No condition. -/
set_option linter.unusedSimpArgs false
set_option linter.unusedVariables false
namespace Rg
open Go
/-- What a configuration of a program is. -/
structure IsC (p : Prog) (c : Config) : Prop where
  lm : c.mem.length = p.cells.length
  la : c.at_.length = p.threads.length
  lb : c.buf.length = p.threads.length
  mem : ∀ (i : Nat) (v : Int) (y : Cell), c.mem[i]? = some v → p.cells[i]? = some y → 0 ≤ v ∧ v < 2 ^ y.w.toNat
  at_ : ∀ (i : Nat) (a : Int) (x : Thread), c.at_[i]? = some a → p.threads[i]? = some x → -1 ≤ a ∧ a < x.points ∧ (a = -1 → x.asleep = true)
  buf : ∀ b ∈ c.buf, b = []
theorem zip_all {α β : Type} {l : List α} {m : List β} {f : α × β → Bool} : (l.zip m).all f = true ↔ ∀ (i : Nat) (a : α) (b : β), l[i]? = some a → m[i]? = some b → f (a, b) = true := by
  rw [List.all_eq_true]
  constructor
  · intro h i a b ha hb
    exact h _ (List.mem_of_getElem? (zip_get ha hb))
  · intro h q hq
    obtain ⟨i, hi⟩ := List.getElem?_of_mem hq
    rw [List.getElem?_zip_eq_some] at hi
    exact h i _ _ hi.1 hi.2
theorem is_iff {p : Prog} {c : Config} : isM p c = true ↔ IsC p c := by
  simp only [isM, fitsM, Bool.and_eq_true, decide_eq_true_eq, zip_all]
  simp only [cellFit, atFit, List.all_eq_true, Bool.and_eq_true, decide_eq_true_eq, Bool.not_eq_true', Bool.and_eq_false_iff, decide_eq_false_iff_not, Bool.not_eq_false', List.isEmpty_iff]
  constructor
  · rintro ⟨⟨⟨⟨⟨h1, h2⟩, h3⟩, h4⟩, h5⟩, h6⟩
    exact ⟨h1, h2, h5, h3, fun i a x ha hx => ⟨(h4 i a x ha hx).1.1, (h4 i a x ha hx).1.2, fun h0 => by
      rcases (h4 i a x ha hx).2 with h | h
      · exact absurd h0 h
      · exact h⟩, h6⟩
  · rintro ⟨h1, h2, h5, h3, h4, h6⟩
    refine ⟨⟨⟨⟨⟨h1, h2⟩, h3⟩, fun i a x ha hx => ⟨⟨(h4 i a x ha hx).1, (h4 i a x ha hx).2.1⟩, ?_⟩⟩, h5⟩, h6⟩
    by_cases h0 : a = -1
    · exact .inr ((h4 i a x ha hx).2.2 h0)
    · exact .inl h0
theorem start_is {p : Prog} (hf : formedM p = true) : isM p (startM p) = true := by
  rw [is_iff, startM, if_pos hf]
  refine ⟨by simp, by simp, by simp, ?_, ?_, ?_⟩
  · intro i v y hv hy
    simp only [List.getElem?_map, hy, Option.map_some, Option.some.injEq] at hv
    subst hv
    exact (formed_cell hf (List.mem_of_getElem? hy)).2.2
  · intro i a x ha hx
    simp only [List.getElem?_map, hx, Option.map_some, Option.some.injEq] at ha
    have := points_bound hf hx
    subst ha
    split
    · rename_i h; exact ⟨by omega, by omega, fun _ => h⟩
    · exact ⟨by omega, by omega, by omega⟩
  · intro b hb
    simp only [List.mem_map] at hb
    obtain ⟨_, _, rfl⟩ := hb
    rfl
theorem eval_bound (e : Expr) (old now : List Int) : 0 ≤ e.eval old now ∧ e.eval old now < 2 ^ e.w.toNat := by
  unfold Expr.eval
  split
  · rename_i h; exact ev_bound old now 40 e (formed_deep h)
  · exact ⟨by omega, pow2_pos _⟩
theorem write_at {p : Prog} {view : List Int} : ∀ {set : List Assign} {mem : List Int},
    (∀ a ∈ set, ∃ y, p.cells[a.cell.toNat]? = some y ∧ a.to.w = y.w) →
    (∀ (i : Nat) (v : Int) (y : Cell), mem[i]? = some v → p.cells[i]? = some y → 0 ≤ v ∧ v < 2 ^ y.w.toNat) →
    ∀ (i : Nat) (v : Int) (y : Cell), (writeM mem view set)[i]? = some v → p.cells[i]? = some y → 0 ≤ v ∧ v < 2 ^ y.w.toNat
  | [], mem, _, hm => hm
  | a :: r, mem, hw, hm => by
    have : writeM mem view (a :: r) = writeM (mem.set a.cell.toNat (a.to.eval view view)) view r := rfl
    rw [this]
    refine write_at (fun b hb => hw b (List.mem_cons_of_mem _ hb)) ?_
    intro i v y hv hy
    rw [List.getElem?_set] at hv
    split at hv
    · rename_i hi
      split at hv
      · cases hv
        obtain ⟨z, hz, hzw⟩ := hw a List.mem_cons_self
        rw [hi, hy] at hz; cases hz
        rw [← hzw]; exact eval_bound _ _ _
      · simp at hv
    · exact hm i v y hv hy
theorem exec_is {p : Prog} (hf : formedM p = true) {c : Config} (hc : isM p c = true) {t i : Nat} {x : Thread} {s : Step} (hx : p.threads[t]? = some x) (hs : x.steps[i]? = some s) : isM p (execS p c t s) = true := by
  rw [is_iff] at hc ⊢
  have hok := formed_step hf hx hs
  refine ⟨by simp only [execS, write_len]; exact hc.lm, ?_, by simp [execS], ?_, ?_, ?_⟩
  · simp only [execS]; split <;> simp <;> exact hc.la
  · exact write_at hok.wid hc.mem
  · have key : ∀ (j : Nat) (a : Int) (z : Thread), (c.at_.set t s.to)[j]? = some a → p.threads[j]? = some z → -1 ≤ a ∧ a < z.points ∧ (a = -1 → z.asleep = true) := by
      intro j a z ha hz
      rw [List.getElem?_set] at ha
      split at ha
      · rename_i hj
        split at ha
        · cases ha
          subst hj
          rw [hx] at hz; cases hz
          have := hok.to
          exact ⟨by omega, by omega, by omega⟩
        · simp at ha
      · exact hc.at_ j a z ha hz
    intro j a z ha hz
    simp only [execS] at ha
    split at ha
    · rw [List.getElem?_set] at ha
      split at ha
      · split at ha
        · cases ha
          have := points_bound hf hz
          exact ⟨by omega, by omega, by omega⟩
        · simp at ha
      · exact key j a z ha hz
    · exact key j a z ha hz
  · intro b hb
    simp only [execS, List.mem_map] at hb
    obtain ⟨_, _, rfl⟩ := hb
    rfl
/-- What a choice that is offered leads to. -/
theorem next_ok {p : Prog} (hf : formedM p = true) {c : Config} (hc : isM p c = true) {y : Choice} (hy : y ∈ choicesM p c) :
    ∃ (t : Nat) (x : Thread) (i : Nat) (s : Step), p.threads[t]? = some x ∧ x.steps[i]? = some s ∧ enabledM p c t s = true ∧ y = ⟨t, i, 0⟩ ∧ nextM p c y = (execS p c t s, 0) ∧ isM p (execS p c t s) = true := by
  obtain ⟨t, x, i, s, hx, hs, he, rfl⟩ := choices_mem.1 hy
  refine ⟨t, x, i, s, hx, hs, he, rfl, ?_, exec_is hf hc hx hs⟩
  rw [nextM, hf, hc]
  simp only [Bool.and_self, if_true, (hasM_iff _ _).2 hy]
  simp [execM, stepAt, hx, hs]
theorem pick_mem {l : List Choice} (h : l ≠ []) (k : Int) : pickAt l k ∈ l := by
  have hl : 0 < l.length := List.length_pos_iff.2 h
  have : k.toNat % l.length < l.length := Nat.mod_lt _ hl
  rw [pickAt, List.getD_eq_getElem?_getD, List.getElem?_eq_getElem this]
  exact List.getElem_mem _
theorem enabledL_eq {p : Prog} (hf : formedM p = true) {c : Config} (hc : isM p c = true) : enabledL p c = choicesM p c := by
  rw [enabledL, hf, hc]; rfl
theorem walkGo_is {p : Prog} (hf : formedM p = true) : ∀ (l : List Int) (c : Config), isM p c = true → isM p (walkGo p c l) = true
  | [], c, h => h
  | k :: r, c, h => by
    rw [walkGo]
    split
    · exact h
    · rename_i hne
      have hm := pick_mem hne k
      rw [enabledL_eq hf h] at hm
      obtain ⟨t, x, i, s, hx, hs, he, hy, hn, hi⟩ := next_ok hf h hm
      rw [enabledL_eq hf h, hn]
      exact walkGo_is hf r _ hi
theorem walk_is {p : Prog} (hf : formedM p = true) (l : List Int) : isM p (walkM p l) = true := walkGo_is hf l _ (start_is hf)
end Rg
end
section
/- Rh: package expr: copies of expressions. No condition. -/
set_option linter.unusedSimpArgs false
set_option linter.unusedVariables false
namespace Rg
open Go
namespace Expr
mutual
/-- The expression whose nodes without kids are replaced. -/
def mapL (f : Expr → Expr) : Expr → Expr
  | .mk o w n [] => f (.mk o w n [])
  | .mk o w n (k :: ks) => .mk o w n (mapL f k :: mapLs f ks)
def mapLs (f : Expr → Expr) : List Expr → List Expr
  | [] => []
  | e :: r => mapL f e :: mapLs f r
end
theorem mapLs_eq (f : Expr → Expr) : ∀ l : List Expr, mapLs f l = l.map (mapL f)
  | [] => rfl
  | e :: r => by rw [mapLs, mapLs_eq f r]; rfl
theorem mapL_leaf {f : Expr → Expr} {e : Expr} (h : e.kids = []) : e.mapL f = f e := by
  obtain ⟨o, w, n, ks⟩ := e
  cases ks with
  | nil => rfl
  | cons k ks => simp [Expr.kids] at h
theorem mapL_node {f : Expr → Expr} {e : Expr} (h : e.kids ≠ []) : e.mapL f = .mk e.op e.w e.n (e.kids.map (mapL f)) := by
  obtain ⟨o, w, n, ks⟩ := e
  cases ks with
  | nil => simp [Expr.kids] at h
  | cons k ks => rw [mapL, mapLs_eq]; rfl
end Expr
/-- The cells show an expression, by objects from lo to hi. -/
def Cut (h : Nat → Option O) (lo hi : Nat) (cs : List V) (e : Expr) : Prop :=
  ∃ x, cs = [.t (ti e.op), .t (ti e.w), .t (ti e.n), x] ∧ V.cells x = some [x] ∧
    ∀ h2 d, e.size ≤ d → (∀ k, lo ≤ k → k < hi → h2 k = h k) → toT h2 d x = some (.sl (e.kids.map Expr.enc))
theorem Cut.mono {h h' : Nat → Option O} {lo hi lo' hi' : Nat} {cs : List V} {e : Expr} (c : Cut h lo hi cs e) (h1 : lo' ≤ lo) (h2 : hi ≤ hi') (hh : ∀ k, lo ≤ k → k < hi → h' k = h k) : Cut h' lo' hi' cs e := by
  obtain ⟨x, hc, hx, ht⟩ := c
  exact ⟨x, hc, hx, fun g d hd hg => ht g d hd fun k k1 k2 => (hg k (by omega) (by omega)).trans (hh k k1 k2)⟩
theorem Cut.tree (h : Nat → Option O) (lo hi : Nat) (e : Expr) : Cut h lo hi [.t (ti e.op), .t (ti e.w), .t (ti e.n), .t (.sl (e.kids.map Expr.enc))] e :=
  ⟨_, rfl, rfl, fun _ d _ _ => by cases d <;> rfl⟩
end Rg
end
section
/- Rh: package expr: copies of expressions, second part; substitution. No condition. -/
set_option linter.unusedSimpArgs false
set_option linter.unusedVariables false
namespace Rg
open Go
theorem mapL_same (e : Expr) : e.mapL (fun x => x) = e := by
  induction e using Expr.ind with
  | _ e ih =>
  by_cases hk : e.kids = []
  · exact Expr.mapL_leaf hk
  · rw [Expr.mapL_node hk]
    have : e.kids.map (Expr.mapL fun x => x) = e.kids := by
      have := List.map_congr_left (f := Expr.mapL fun x => x) (g := id) (l := e.kids) fun k hk => ih k hk
      simpa using this
    rw [this]
    obtain ⟨o, w, n, ks⟩ := e
    rfl
end Rg
end
section
/- Rh: package expr: substitution. No condition. -/
set_option linter.unusedSimpArgs false
set_option linter.unusedVariables false
namespace Rg
open Go
end Rg
end
section
/- Rh: package expr: substitution, second part. No condition. -/
set_option linter.unusedSimpArgs false
set_option linter.unusedVariables false
namespace Rg
open Go
end Rg
end
section
/- Rh: layer 11: substitution and assignment, the plain law. No condition. -/
set_option linter.unusedSimpArgs false
set_option linter.unusedVariables false
namespace Rg
open Go
theorem node_inner {e : Expr} (h : nodeOk e = true) (hk : e.kids ≠ []) : e.op ≠ 1 ∧ e.op ≠ 2 ∧ e.op ≠ 3 := by
  have ha := node_arity h
  refine ⟨fun ho => ?_, fun ho => ?_, fun ho => ?_⟩ <;> rw [ho] at ha <;> simp [arity] at ha <;> exact hk (List.eq_nil_of_length_eq_zero (by omega))
/-- The leaves of an expression. -/
theorem lv_mem {e x : Expr} (h : x ∈ e.lv) : x.kids = [] := by
  induction e using Expr.ind with
  | _ e ih =>
    rw [Expr.lv_eq] at h
    split at h
    · rename_i hk; rw [List.mem_singleton.1 h]; exact hk
    · obtain ⟨k, hk, hx⟩ := List.mem_flatMap.1 h
      exact ih k hk hx
theorem lv_kid {e k : Expr} (hk : k ∈ e.kids) {x : Expr} (hx : x ∈ k.lv) : x ∈ e.lv := by
  rw [Expr.lv_eq, if_neg (by intro h; rw [h] at hk; simp at hk)]
  exact List.mem_flatMap.2 ⟨k, hk, hx⟩
theorem lv_self {e : Expr} (hk : e.kids = []) : e ∈ e.lv := by rw [Expr.lv_eq, if_pos hk]; simp
theorem lv_deep {x : Expr} : ∀ {d : Nat} {e : Expr}, e.deep d = true → x ∈ e.lv → nodeOk x = true := by
  intro d
  induction d with
  | zero => intro e h; simp [Expr.deep] at h
  | succ d ih =>
    intro e h hx
    rw [Expr.lv_eq] at hx
    split at hx
    · rw [List.mem_singleton.1 hx]; exact deep_node h
    · obtain ⟨k, hk, hx⟩ := List.mem_flatMap.1 hx
      exact ih (deep_kid h hk) hx
theorem lv_allE {f : Expr → Bool} {x : Expr} : ∀ {e : Expr}, e.allE f = true → x ∈ e.lv → f x = true := by
  intro e
  induction e using Expr.ind with
  | _ e ih =>
    intro h hx
    rw [Expr.lv_eq] at hx
    split at hx
    · rw [List.mem_singleton.1 hx]; exact Expr.allE_self h
    · obtain ⟨k, hk, hx⟩ := List.mem_flatMap.1 hx
      exact ih k hk (Expr.allE_kid h hk) hx
theorem mapL_ev {f : Expr → Expr} {o1 m1 o2 m2 : List Int} : ∀ {d : Nat} {e : Expr}, e.deep d = true → (∀ x ∈ e.lv, (f x).ev o1 m1 = x.ev o2 m2) → (e.mapL f).ev o1 m1 = e.ev o2 m2 := by
  intro d
  induction d with
  | zero => intro e h; simp [Expr.deep] at h
  | succ d ih =>
    intro e h hl
    by_cases hk : e.kids = []
    · rw [Expr.mapL_leaf hk]; exact hl e (lv_self hk)
    · obtain ⟨n1, n2, n3⟩ := node_inner (deep_node h) hk
      rw [Expr.mapL_node hk, Expr.ev_eq, Expr.ev_eq o2 m2 e]
      have : (e.kids.map (Expr.mapL f)).map (Expr.ev o1 m1) = e.kids.map (Expr.ev o2 m2) := by
        rw [List.map_map]
        exact List.map_congr_left fun k hk => ih (deep_kid h hk) fun x hx => hl x (lv_kid hk hx)
      simp only [go_sem, n1, n2, n3, if_false, this]
theorem write_off {view : List Int} {c : Nat} : ∀ {set : List Assign} {mem : List Int}, (∀ a ∈ set, 0 ≤ a.cell ∧ a.cell ≠ c) → (writeM mem view set)[c]? = mem[c]?
  | [], mem, _ => rfl
  | a :: r, mem, h => by
    have e : writeM mem view (a :: r) = writeM (mem.set a.cell.toNat (a.to.eval view view)) view r := rfl
    have h0 := h a (by simp)
    rw [e, write_off fun b hb => h b (by simp [hb]), List.getElem?_set, if_neg (by omega)]
/-- What is assumed of the assignments of a step. -/
structure SetOk (p : Prog) (set : List Assign) : Prop where
  rng : ∀ a ∈ set, inR a.cell p.cells.length = true ∧ a.to.valid p.cells false = true
  wid : ∀ a ∈ set, ∃ y, p.cells[a.cell.toNat]? = some y ∧ a.to.w = y.w
  dif : ∀ (i j : Nat) (a b : Assign), set[i]? = some a → set[j]? = some b → a.cell = b.cell → i = j
theorem valid_lv {cells : List Cell} {e x : Expr} (h : e.valid cells false = true) (hx : x ∈ e.lv) : x.kids = [] ∧ nodeOk x = true ∧ (x.op = 1 ∨ x.op = 2 ∧ 0 ≤ x.n ∧ x.n < 32 ∧ ∃ c, cells[x.n.toNat]? = some c ∧ c.w = x.w) := by
  simp only [Expr.valid, Bool.and_eq_true] at h
  have hk := lv_mem hx
  have hn := lv_deep (formed_deep h.1) hx
  have hl := lv_allE h.2 hx
  have hc := lv_allE (deep_lcS 40 e (formed_deep h.1)) hx
  simp only [lcS, Bool.and_eq_true, decide_eq_true_eq] at hc
  refine ⟨hk, hn, ?_⟩
  have h3 : x.op ≠ 3 := fun h3 => by simp [leafOk, h3] at hl
  rcases hc.1.2 hk with h1 | ⟨h2 | h2, hlt⟩
  · exact .inl h1
  · refine .inr ⟨h2, hc.1.1, hlt, ?_⟩
    simp only [leafOk, h2] at hl
    cases hcc : cells[x.n.toNat]? with
    | none => simp [hcc] at hl
    | some c => exact ⟨c, rfl, by simpa [hcc] using hl⟩
  · exact absurd h2 h3
end Rg
end
section
/- Rh: layer 11: the fourth law. No condition. -/
set_option linter.unusedSimpArgs false
set_option linter.unusedVariables false
namespace Rg
open Go
theorem few_set {p : Prog} (hf : fewM p = true) {t i : Nat} {x : Thread} {s : Step} (hx : p.threads[t]? = some x) (hs : x.steps[i]? = some s) : s.set.length ≤ 8 ∧ ∀ a ∈ s.set, a.to.size ≤ 30 := by
  simp only [fewM, Bool.and_eq_true, decide_eq_true_eq, List.all_eq_true] at hf
  obtain ⟨⟨⟨⟨⟨⟨h1, h2⟩, h3⟩, h4⟩, h5⟩, h6⟩, h7⟩ := hf
  have ht := (fewGo_mem h5 (by omega) x (List.mem_of_getElem? hx)).2.2.2.2
  simp only [fewT, Bool.and_eq_true, List.all_eq_true] at ht
  have hst := ht.1.1 s (List.mem_of_getElem? hs)
  simp only [fewS, fewA, Bool.and_eq_true, List.all_eq_true, decide_eq_true_eq] at hst
  exact ⟨by omega, fun a ha => by have := hst.2 a ha; omega⟩
end Rg
end
section
/- Rh: package program: the cells that a step writes. No condition. -/
set_option linter.unusedSimpArgs false
set_option linter.unusedVariables false
namespace Rg
open Go
theorem intsOf_rowsI : ∀ l : List Int, intsOf (rowsI l) = some l
  | [] => rfl
  | a :: l => by
    have : rowsI (a :: l) = [.t (.int .i64 a)] :: rowsI l := rfl
    rw [this, intsOf, intsOf_rowsI l]; rfl
theorem ofInts_rowsI (l : List Int) : ofInts l = rowsI l := by simp [ofInts, rowsI]
/-- A list in order, each number once. -/
def sortedM (l : List Int) : List Int := Go.Lib.compact (l.mergeSort fun x y => decide (x ≤ y))
theorem compact_mem (l : List Int) (x : Int) : x ∈ Go.Lib.compact l ↔ x ∈ l := by
  unfold Go.Lib.compact Go.Lib.compactUpTo
  simp only [List.mem_map, List.mem_filter, List.mem_range]
  constructor
  · rintro ⟨j, ⟨hj, _⟩, rfl⟩
    simp [hj]
  · intro hx
    obtain ⟨i, hi⟩ := List.getElem?_of_mem hx
    have key : ∀ i : Nat, l[i]? = some x → ∃ a, (a < l.length ∧ Go.Lib.keeps l.toArray a = true) ∧ l.toArray[a]! = x := by
      intro i
      induction i with
      | zero =>
        intro h
        obtain ⟨h1, h2⟩ := List.getElem?_eq_some_iff.1 h
        exact ⟨0, ⟨h1, by simp [Go.Lib.keeps]⟩, by simp [h1, h2]⟩
      | succ i ih =>
        intro h
        obtain ⟨h1, h2⟩ := List.getElem?_eq_some_iff.1 h
        by_cases he : l[i]? = some x
        · exact ih he
        · refine ⟨i + 1, ⟨h1, ?_⟩, by simp [h1, h2]⟩
          have hi : i < l.length := by omega
          have : ¬ l[i + 1] = l[i] := by
            intro hh
            rw [List.getElem?_eq_getElem hi] at he
            exact he (by rw [← hh, h2])
          simp [Go.Lib.keeps, h1, hi, this]
    exact key i hi
theorem sortedM_mem (l : List Int) (x : Int) : x ∈ sortedM l ↔ x ∈ l := by
  rw [sortedM, compact_mem, List.mem_mergeSort]
theorem compactL (l : List Int) : (Go.Lib.compact l).length ≤ l.length := by
  unfold Go.Lib.compact Go.Lib.compactUpTo
  rw [List.length_map]
  exact Nat.le_trans (List.length_filter_le _ _) (by simp)
theorem sortedM_len (l : List Int) : (sortedM l).length ≤ l.length := by
  have := compactL (l.mergeSort fun x y => decide (x ≤ y))
  rwa [List.length_mergeSort] at this
/-- A slice that shows numbers, with what lies behind it. -/
def Shown (h : Nat → Option O) (r : V) (l : List Int) : Prop := (r = .t .nils ∧ l = []) ∨ ∃ k m, r = .ms k 0 l.length ∧ h k = some (.rows 1 (rowsI (l ++ m)) false)
theorem sorted_den (H : Nat → Option O) (x n : Nat) (v : V) (l : List Int) (ho : OwnB H x v 1 (rowsI l)) (hl : l.length < 2 ^ 40) :
    ∃ r h' n', DenR Γ G 57 [v] H n = some (r, h', n') ∧ Shown h' r (sortedM l) := by
  (refine denR_ofY Γ57 rfl ?_; dsimp only [f57])
  rcases ho with ⟨rfl, hr⟩ | ⟨k, rfl, hk, hh⟩
  · have hl0 : l = [] := by
      have := congrArg List.length hr
      rw [rowsI_len] at this
      exact List.eq_nil_of_length_eq_zero this
    subst hl0
    have a1 : ∀ n, DenR Γ G 74 [.t .nils] H n = some (.tup [], H, n) := fun n => denR_ext Γ74 rfl rfl rfl
    have a2 : ∀ n, DenR Γ G 75 [.t .nils] H n = some (.t .nils, H, n) := fun n => denR_ext Γ75 rfl rfl rfl
    simp -dsimp -implicitDefEqProofs only [go_sem, seval, a1, a2]
    exact .inl ⟨rfl, by rw [sortedM, List.mergeSort_nil]; rfl⟩
  · rw [rowsI_len]
    have s1 : (l.mergeSort fun x y => decide (x ≤ y)).length = l.length := List.length_mergeSort _
    have a1 : ∀ n, DenR Γ G 74 [.ms k 0 l.length] H n = some (.tup [], upd H k (some (.rows 1 (rowsI (l.mergeSort fun x y => decide (x ≤ y))) false)), n) := fun n => denR_ext Γ74 rfl rfl (by
      simp only [extSem, hh, intsOf_rowsI, Option.bind_some, ofInts_rowsI]
      rw [if_pos (by exact ⟨trivial, by omega⟩)])
    have a2 : ∀ n, DenR Γ G 75 [.ms k 0 l.length] (upd H k (some (.rows 1 (rowsI (l.mergeSort fun x y => decide (x ≤ y))) false))) n = some (.ms k 0 (sortedM l).length, upd (upd H k (some (.rows 1 (rowsI (l.mergeSort fun x y => decide (x ≤ y))) false))) k (some (.rows 1 (rowsI (sortedM l ++ List.replicate (l.length - (sortedM l).length) 0)) false)), n) := fun n => denR_ext Γ75 rfl rfl (by
      simp only [extSem, upd_same, intsOf_rowsI, Option.bind_some, ofInts_rowsI]
      rw [if_pos ⟨s1, by omega⟩, s1]; rfl)
    simp -dsimp -implicitDefEqProofs only [go_sem, seval, a1, a2]
    exact .inr ⟨k, _, rfl, upd_same _ _ _⟩
def writesM (s : Step) : List Int := sortedM (s.set.map Assign.cell)
theorem writes_den (s : Step) (hs : s.set.length < 2 ^ 31) : Den Γ G 28 [(.agg [.t (ti (s).kind), .t (ti (s).fr), .t (ti (s).to), .t (ti ((s).guard).op), .t (ti ((s).guard).w), .t (ti ((s).guard).n), .t (.sl (((s).guard).kids.map Expr.enc)), .t (.sl ((s).set.map Assign.enc)), .t (tb (s).release), .t (ti (s).target), .t (ti (s).module)])] = some (.t (ints (writesM s))) := by
  (refine den_ofY Γ28 rfl ?_; dsimp only [f28])
  simp -dsimp -implicitDefEqProofs only [go_sem, seval]
  refine loopYH 523816 s.set.length (fun i f h x => (f 9).v = vi i ∧ OwnB h x (f 3).v 1 (rowsI ((s.set.map Assign.cell).take i))) rfl ⟨by simp -dsimp -implicitDefEqProofs only [go_sem, seval], .inl ⟨by simp -dsimp -implicitDefEqProofs only [go_sem, seval], rfl⟩⟩ ?_
  rintro i f u H x bs hi ⟨h9, hown⟩
  have hw := wrapS i (by omega)
  simp -dsimp -implicitDefEqProofs only [go_sem, seval, h9]
  refine csplit (fun h => ?_) (fun h => ?_) <;> (try rw [h]) <;> (try simp only [bools] at h) <;> (try simp -dsimp -implicitDefEqProofs only [go_sem, seval, h9])
  · obtain ⟨a, ha, _⟩ := get_of ‹i < s.set.length›
    have ha' : (s.set.map Assign.cell)[i]? = some a.cell := by simp [ha]
    have v1 := hown.valOf
    have v2 := hown.r2
    have v3 := hown.r3
    simp -dsimp -implicitDefEqProofs only [go_sem, seval, h9, ha, v1, v2, v3]
    refine putA_app1 (hown.upd (by omega) _) (by omega) (by rw [rowsI_len]; simp; omega) (by decide) rfl (rowsI_all _) ?_
    intro v hp hO hoffs hkeep
    have w1 := hO.valOf
    rw [show rowsI ((s.set.map Assign.cell).take i) ++ [[V.t (ti a.cell)]] = rowsI ((s.set.map Assign.cell).take (i + 1)) from by rw [take_succ_of ha', rowsI_app]] at hO
    simp -dsimp -implicitDefEqProofs only [go_sem, seval, w1, h9]
    exact ⟨by omega, by simp -dsimp -implicitDefEqProofs only [go_sem, seval, hw], by simp -dsimp -implicitDefEqProofs only [go_sem, seval]; exact hO.le (by omega)⟩
  · have : i = s.set.length := by omega
    subst this
    rw [show (s.set.map Assign.cell).take s.set.length = s.set.map Assign.cell from List.take_of_length_le (by simp)] at hown
    have v1 := hown.valOf
    simp -dsimp -implicitDefEqProofs only [go_sem, seval, v1]
    refine rawK_of (sorted_den H x _ _ _ hown (by simp; omega)) ?_
    rintro r h' n' hsh
    rcases hsh with ⟨rfl, he⟩ | ⟨k, m, rfl, hk⟩
    · simp -dsimp -implicitDefEqProofs only [go_sem, seval]
      rw [writesM, he]; rfl
    · have q1 : List.take (sortedM (s.set.map Assign.cell)).length (rowsI (sortedM (s.set.map Assign.cell) ++ m)) = rowsI (sortedM (s.set.map Assign.cell)) := by simp [rowsI]
      have q2 : (rowsI (sortedM (s.set.map Assign.cell) ++ m)).length = (sortedM (s.set.map Assign.cell)).length + m.length := by rw [rowsI_len, List.length_append]
      simp -dsimp -implicitDefEqProofs only [go_sem, seval, hk, q1, q2, Nat.le_add_right, rowsI_toT]
      rfl
end Rg
end
section
/- Rh: layer 11: the third law. No condition. -/
set_option linter.unusedSimpArgs false
set_option linter.unusedVariables false
namespace Rg
open Go
theorem hasI_den (l : List Int) (n : Int) (hl : l.length < 2 ^ 50) : Den Γ G 29 [.t (ints l), vi n] = some (vb (decide (n ∈ l))) := by
  (refine den_ofY Γ29 rfl ?_; dsimp only [f29])
  simp -dsimp -implicitDefEqProofs only [go_sem, seval]
  refine loopY 262128 l.length (fun i f => (f 5).v = vi i ∧ n ∉ l.take i) rfl rfl ⟨by simp -dsimp -implicitDefEqProofs only [go_sem, seval], by simp⟩ ?_
  rintro i f u kk bb hi ⟨h3, hno⟩
  have hw := wrapS i (by omega)
  simp -dsimp -implicitDefEqProofs only [go_sem, seval, h3]
  refine csplit (fun h => ?_) (fun h => ?_) <;> (try rw [h]) <;> (try simp only [bools] at h) <;> (try simp -dsimp -implicitDefEqProofs only [go_sem, seval, h3])
  · obtain ⟨y, hy, hym⟩ := get_of ‹i < l.length›
    simp -dsimp -implicitDefEqProofs only [go_sem, seval, h3, hy]
    refine csplit (fun h => ?_) (fun h => ?_) <;> (try rw [h]) <;> (try simp only [bools] at h) <;> (try simp -dsimp -implicitDefEqProofs only [go_sem, seval, h3])
    · have : n ∈ l := by rw [← h]; exact hym
      simp [this]
    · refine ⟨by omega, by simp -dsimp -implicitDefEqProofs only [go_sem, seval, hw], ?_⟩
      rw [take_succ_of hy]
      simp only [List.mem_append, List.mem_singleton, not_or]
      exact ⟨hno, fun e => h e.symm⟩
  · have : i = l.length := by omega
    subst this
    rw [List.take_length] at hno
    simp [hno]
/-- What a step writes. -/
theorem exec_mem {p : Prog} {c : Config} {t : Nat} {s : Step} (hs : SetOk p s.set) {i : Nat} (h : (execS p c t s).mem[i]? ≠ c.mem[i]?) : (i : Int) ∈ writesM s := by
  rw [writesM, sortedM_mem, List.mem_map]
  by_cases hx : ∃ a ∈ s.set, a.cell = (i : Int)
  · obtain ⟨a, ha, hc⟩ := hx; exact ⟨a, ha, hc⟩
  · exfalso
    refine h (write_off fun a ha => ⟨?_, fun hc => hx ⟨a, ha, hc⟩⟩)
    have := (hs.rng a ha).1
    simp only [inR, decide_eq_true_eq] at this; omega
end Rg
end
section
/- Rh: layer 11: what steps read, the plain facts. No condition. -/
set_option linter.unusedSimpArgs false
set_option linter.unusedVariables false
namespace Rg
open Go
theorem marked_mem (l : List Bool) (m : Nat) (n : Nat) : (n : Int) ∈ marked l m ↔ n < m ∧ l.getD n false = true := by
  unfold marked
  simp only [List.mem_map, List.mem_filter, List.mem_range]
  constructor
  · rintro ⟨j, ⟨hj, hg⟩, he⟩
    have : j = n := by omega
    subst this
    exact ⟨hj, hg⟩
  · rintro ⟨hj, hg⟩
    exact ⟨n, ⟨hj, hg⟩, rfl⟩
theorem fold_mark_keep (op : Int) (n : Nat) : ∀ (l : List Expr) (s : List Bool), s.getD n false = true → (l.foldl (markS op) s).getD n false = true
  | [], s, h => h
  | x :: l, s, h => by
    rw [List.foldl_cons]
    refine fold_mark_keep op n l _ ?_
    unfold markS
    split
    · rw [List.getD_eq_getElem?_getD, List.getElem?_set]
      split
      · split
        · rfl
        · rename_i he hlt
          subst he
          rw [List.getD_eq_getElem?_getD, List.getElem?_eq_none (by omega)] at h
          simp at h
      · rw [← List.getD_eq_getElem?_getD]; exact h
    · exact h
theorem fold_mark (op : Int) {n : Nat} : ∀ (l : List Expr) (s : List Bool), n < s.length → (∃ x ∈ l, x.op = op ∧ x.n.toNat = n) → (l.foldl (markS op) s).getD n false = true
  | [], s, _, h => by obtain ⟨x, hx, _⟩ := h; simp at hx
  | y :: l, s, hn, h => by
    rw [List.foldl_cons]
    by_cases hy : y.op = op ∧ y.n.toNat = n
    · refine fold_mark_keep op n l _ ?_
      rw [markS, if_pos hy.1, List.getD_eq_getElem?_getD, List.getElem?_set, if_pos hy.2, if_pos (by omega)]; rfl
    · refine fold_mark op l _ (by rw [markS_len]; exact hn) ?_
      obtain ⟨x, hx, h1⟩ := h
      rcases List.mem_cons.1 hx with rfl | hx
      · exact absurd h1 hy
      · exact ⟨x, hx, h1⟩
/-- The cells of an expression are among those that it names. -/
theorem sup_lv {e x : Expr} (hf : e.formed = true) (hx : x ∈ e.lv) (ho : x.op = 2) (h0 : 0 ≤ x.n) (h1 : x.n < 32) : x.n ∈ e.sup 2 := by
  rw [Expr.sup, if_pos hf]
  have := (marked_mem (e.occ 2) 32 x.n.toNat).2 ⟨by omega, fold_mark 2 e.lv _ (by simp; omega) ⟨x, hx, ho, rfl⟩⟩
  rwa [show ((x.n.toNat : Nat) : Int) = x.n by omega] at this
/-- Two memories agree on cells. -/
def Agree (l : List Int) (m m' : List Int) : Prop := ∀ n : Nat, (n : Int) ∈ l → m[n]? = m'[n]?
theorem eval_agree {cells : List Cell} {e : Expr} (he : e.valid cells false = true) {m m' o o' : List Int} (h : Agree (e.sup 2) m m') : e.eval o m = e.eval o' m' := by
  have hv := he
  simp only [Expr.valid, Bool.and_eq_true] at hv
  rw [Expr.eval, Expr.eval, if_pos hv.1, if_pos hv.1]
  have := mapL_ev (f := fun x => x) (o1 := o) (o2 := o') (m1 := m) (m2 := m') (formed_deep hv.1) (fun x hx => by
    obtain ⟨hk, hn, ho⟩ := valid_lv he hx
    rcases ho with ho | ⟨ho, h0, hlt, _⟩
    · simp [Expr.ev_eq, ho]
    · have hm := sup_lv hv.1 hx ho h0 hlt
      have hg := h x.n.toNat (by rw [show ((x.n.toNat : Nat) : Int) = x.n by omega]; exact hm)
      have : atI m x.n = atI m' x.n := by simp [atI, List.getD_eq_getElem?_getD, hg]
      simp [Expr.ev_eq, ho, this])
  rwa [mapL_same] at this
/-- The cells that a step reads. -/
def readsM (s : Step) : List Int := sortedM (s.guard.sup 2 ++ s.set.flatMap fun a => a.to.sup 2)
theorem reads_guard {s : Step} {n : Int} (h : n ∈ s.guard.sup 2) : n ∈ readsM s := by
  rw [readsM, sortedM_mem]; exact List.mem_append_left _ h
theorem reads_set {s : Step} {a : Assign} (ha : a ∈ s.set) {n : Int} (h : n ∈ a.to.sup 2) : n ∈ readsM s := by
  rw [readsM, sortedM_mem]; exact List.mem_append_right _ (List.mem_flatMap.2 ⟨a, ha, h⟩)
theorem guard_agree {p : Prog} {s : Step} (hv : s.guard.valid p.cells false = true) {m m' : List Int} (h : Agree (readsM s) m m') : s.guard.eval m m = s.guard.eval m' m' :=
  eval_agree hv fun n hn => h n (reads_guard hn)
theorem set_agree {p : Prog} {s : Step} (hs : SetOk p s.set) {m m' : List Int} (h : Agree (readsM s) m m') {a : Assign} (ha : a ∈ s.set) : a.to.eval m m = a.to.eval m' m' :=
  eval_agree (hs.rng a ha).2 fun n hn => h n (reads_set ha hn)
/-- The memory after assignments whose values are given. -/
theorem write_congr {view view' : List Int} : ∀ {set : List Assign} {mem : List Int}, (∀ a ∈ set, a.to.eval view view = a.to.eval view' view') → writeM mem view set = writeM mem view' set
  | [], mem, _ => rfl
  | a :: r, mem, h => by
    have e : ∀ v, writeM mem v (a :: r) = writeM (mem.set a.cell.toNat (a.to.eval v v)) v r := fun v => rfl
    rw [e, e, h a (by simp), write_congr fun b hb => h b (by simp [hb])]
theorem set_swap {view view' : List Int} {i : Nat} {v : Int} : ∀ {set : List Assign} {mem : List Int}, (∀ a ∈ set, a.cell.toNat ≠ i) → (writeM mem view set).set i v = writeM (mem.set i v) view set
  | [], mem, _ => rfl
  | a :: r, mem, h => by
    have e : ∀ mem, writeM mem view (a :: r) = writeM (mem.set a.cell.toNat (a.to.eval view view)) view r := fun _ => rfl
    rw [e, e, set_swap (view' := view') fun b hb => h b (by simp [hb]), List.set_comm _ _ (h a (by simp))]
theorem write_swap {v1 v2 : List Int} : ∀ {s1 s2 : List Assign} {mem : List Int}, (∀ a ∈ s1, ∀ b ∈ s2, a.cell.toNat ≠ b.cell.toNat) → writeM (writeM mem v1 s1) v2 s2 = writeM (writeM mem v2 s2) v1 s1
  | [], s2, mem, _ => rfl
  | a :: r, s2, mem, h => by
    have e : ∀ mem, writeM mem v1 (a :: r) = writeM (mem.set a.cell.toNat (a.to.eval v1 v1)) v1 r := fun _ => rfl
    rw [e, write_swap fun x hx b hb => h x (by simp [hx]) b hb, e, set_swap (view' := v2) fun b hb => (h a (by simp) b hb).symm]
end Rg
end
section
/- Rh: layer 11: independent steps, the plain law. No condition. -/
set_option linter.unusedSimpArgs false
set_option linter.unusedVariables false
namespace Rg
open Go
/-- The thread that a step spawns or joins. -/
def targetM (s : Step) : Int := if s.kind = 6 ∨ s.kind = 7 then s.target else -1
def apartM (a b : List Int) : Bool := a.all fun n => !decide (n ∈ b)
def indepM (a : Int) (s : Step) (b : Int) (t : Step) : Bool :=
  !(decide (targetM s = b) || decide (targetM t = a) || (decide (0 ≤ targetM s) && decide (targetM s = targetM t))) && apartM (writesM s) (writesM t) && apartM (writesM s) (readsM t) && apartM (writesM t) (readsM s)
theorem apart_iff {a b : List Int} : apartM a b = true ↔ ∀ n ∈ a, n ∉ b := by
  simp [apartM, List.all_eq_true]
theorem exec_agree {p : Prog} {c : Config} {a : Nat} {s t : Step} (hs : SetOk p s.set) (h : ∀ n ∈ writesM s, n ∉ readsM t) : Agree (readsM t) (execS p c a s).mem c.mem :=
  fun n hn => Classical.byContradiction fun hne => h _ (exec_mem hs hne) hn
theorem at_same {p : Prog} {c : Config} {a i : Nat} {s : Step} (hi : i ≠ a) (hk : s.kind = 6 → s.target.toNat ≠ i) : (execS p c a s).at_[i]? = c.at_[i]? := by
  simp only [execS]
  split
  · rename_i h6
    rw [List.getElem?_set, if_neg (hk h6), List.getElem?_set, if_neg (fun h => hi h.symm)]
  · rw [List.getElem?_set, if_neg (fun h => hi h.symm)]
theorem atI_congr {l m : List Int} {n : Int} (h : l[n.toNat]? = m[n.toNat]?) : atI l n = atI m n := by simp [atI, List.getD_eq_getElem?_getD, h]
structure Ind (p : Prog) (a : Nat) (s : Step) (b : Nat) (t : Step) : Prop where
  ne : a ≠ b
  hs : ∃ x, StepOk p a x s
  ht : ∃ x, StepOk p b x t
  tb : targetM s ≠ b
  ta : targetM t ≠ a
  tt : ¬ (0 ≤ targetM s ∧ targetM s = targetM t)
  ww : ∀ n ∈ writesM s, n ∉ writesM t
  wr : ∀ n ∈ writesM s, n ∉ readsM t
  rw : ∀ n ∈ writesM t, n ∉ readsM s
theorem StepOk.set {p : Prog} {t : Int} {x : Thread} {s : Step} (h : StepOk p t x s) : SetOk p s.set := ⟨h.rng.2, h.wid, h.dif⟩
theorem Ind.symm {p : Prog} {a b : Nat} {s t : Step} (h : Ind p a s b t) : Ind p b t a s :=
  ⟨h.ne.symm, h.ht, h.hs, h.ta, h.tb, fun ⟨h1, h2⟩ => h.tt ⟨h2 ▸ h1, h2.symm⟩, fun n h1 h2 => h.ww n h2 h1, h.rw, h.wr⟩
theorem ind_enabled {p : Prog} {c : Config} {a b : Nat} {s t : Step} (h : Ind p a s b t) : enabledM p (execS p c a s) b t = enabledM p c b t := by
  obtain ⟨x, hs⟩ := h.hs
  obtain ⟨y, ht⟩ := h.ht
  have h6 : ∀ {q : Step}, q.kind = 6 ∨ q.kind = 7 → targetM q = q.target := fun hk => by rw [targetM, if_pos hk]
  have e1 : atI (execS p c a s).at_ b = atI c.at_ b := by
    refine atI_congr (at_same (by simpa using h.ne.symm) fun hk => ?_)
    have := (hs.tgt (.inl hk)).1
    simp only [inR, decide_eq_true_eq] at this
    have hb := h.tb
    rw [h6 (.inl hk)] at hb
    simp; omega
  have e2 := guard_agree (p := p) ht.rng.1 (exec_agree (c := c) (a := a) hs.set h.wr)
  have e3 : t.kind = 6 ∨ t.kind = 7 → atI (execS p c a s).at_ t.target = atI c.at_ t.target := fun hk => by
    have hr := (ht.tgt hk).1
    simp only [inR, decide_eq_true_eq] at hr
    have ha := h.ta
    rw [h6 hk] at ha
    refine atI_congr (at_same (by omega) fun hk2 => ?_)
    have hr2 := (hs.tgt (.inl hk2)).1
    simp only [inR, decide_eq_true_eq] at hr2
    intro he
    refine h.tt ?_
    rw [h6 (.inl hk2), h6 hk]
    omega
  unfold enabledM
  rw [e1, e2]
  congr 1
  split
  · rename_i hk; rw [e3 (.inl hk)]
  · split
    · rename_i hk; rw [e3 (.inr hk)]
    · rfl
theorem cell_ne {p : Prog} {s t : Step} (hs : SetOk p s.set) (ht : SetOk p t.set) (h : ∀ n ∈ writesM s, n ∉ writesM t) : ∀ a ∈ s.set, ∀ b ∈ t.set, a.cell.toNat ≠ b.cell.toNat := by
  intro a ha b hb he
  have h1 := (hs.rng a ha).1
  have h2 := (ht.rng b hb).1
  simp only [inR, decide_eq_true_eq] at h1 h2
  have he' : a.cell = b.cell := by omega
  refine h a.cell ?_ ?_
  · rw [writesM, sortedM_mem]; exact List.mem_map_of_mem ha
  · rw [writesM, sortedM_mem, he']; exact List.mem_map_of_mem hb
theorem ind_exec {p : Prog} {c : Config} {a b : Nat} {s t : Step} (h : Ind p a s b t) : execS p (execS p c a s) b t = execS p (execS p c b t) a s := by
  obtain ⟨x, hs⟩ := h.hs
  obtain ⟨y, ht⟩ := h.ht
  have h6 : ∀ {q : Step}, q.kind = 6 → targetM q = q.target := fun hk => by rw [targetM, if_pos (.inl hk)]
  have hmem : (execS p (execS p c a s) b t).mem = (execS p (execS p c b t) a s).mem := by
    have e1 : (execS p (execS p c a s) b t).mem = writeM (writeM c.mem c.mem s.set) c.mem t.set :=
      write_congr fun q hq => set_agree ht.set (exec_agree (c := c) (a := a) hs.set h.wr) hq
    have e2 : (execS p (execS p c b t) a s).mem = writeM (writeM c.mem c.mem t.set) c.mem s.set :=
      write_congr fun q hq => set_agree hs.set (exec_agree (c := c) (a := b) ht.set h.rw) hq
    rw [e1, e2, write_swap (cell_ne hs.set ht.set h.ww)]
  have hat : (execS p (execS p c a s) b t).at_ = (execS p (execS p c b t) a s).at_ := by
    have c1 : ∀ l : List Int, (l.set a s.to).set b t.to = (l.set b t.to).set a s.to := fun l => List.set_comm _ _ h.ne
    simp only [execS]
    by_cases hk1 : s.kind = 6
    · have hr1 := (hs.tgt (.inl hk1)).1
      simp only [inR, decide_eq_true_eq] at hr1
      have hb := h.tb
      rw [h6 hk1] at hb
      have c2 : ∀ l : List Int, (l.set s.target.toNat 0).set b t.to = (l.set b t.to).set s.target.toNat 0 := fun l => List.set_comm _ _ (by omega)
      by_cases hk2 : t.kind = 6
      · have hr2 := (ht.tgt (.inl hk2)).1
        simp only [inR, decide_eq_true_eq] at hr2
        have ha := h.ta
        rw [h6 hk2] at ha
        have hne : s.target.toNat ≠ t.target.toNat := by
          intro he
          refine h.tt ?_
          rw [h6 hk1, h6 hk2]; omega
        have c3 : ∀ l : List Int, (l.set a s.to).set t.target.toNat 0 = (l.set t.target.toNat 0).set a s.to := fun l => List.set_comm _ _ (by omega)
        have c4 : ∀ l : List Int, (l.set s.target.toNat 0).set t.target.toNat 0 = (l.set t.target.toNat 0).set s.target.toNat 0 := fun l => List.set_comm _ _ hne
        simp only [hk1, hk2, if_true]
        rw [c2, c1, c4, c3]
      · simp only [hk1, hk2, if_true, if_false]
        rw [c2, c1]
    · by_cases hk2 : t.kind = 6
      · have hr2 := (ht.tgt (.inl hk2)).1
        simp only [inR, decide_eq_true_eq] at hr2
        have ha := h.ta
        rw [h6 hk2] at ha
        have c3 : ∀ l : List Int, (l.set a s.to).set t.target.toNat 0 = (l.set t.target.toNat 0).set a s.to := fun l => List.set_comm _ _ (by omega)
        simp only [hk1, hk2, if_true, if_false]
        rw [c1, c3]
      · simp only [hk1, hk2, if_false]
        rw [c1]
  have hbuf : (execS p (execS p c a s) b t).buf = (execS p (execS p c b t) a s).buf := rfl
  generalize execS p (execS p c a s) b t = u at *
  generalize execS p (execS p c b t) a s = v at *
  cases u; cases v
  simp only at hmem hat hbuf
  subst hmem hat hbuf
  rfl
end Rg
end
section
/- Rh: package program: the cells that a step reads. No condition. -/
set_option linter.unusedSimpArgs false
set_option linter.unusedVariables false
namespace Rg
open Go
def readsL (s : Step) (i : Nat) : List Int := s.guard.sup 2 ++ (s.set.take i).flatMap fun a => a.to.sup 2
theorem readsL_len (s : Step) (i : Nat) : (readsL s i).length ≤ 32 + 32 * i := by
  unfold readsL
  have h0 := sup_len 2 s.guard
  have : ∀ l : List Assign, (l.flatMap fun a => a.to.sup 2).length ≤ 32 * l.length := by
    intro l
    induction l with
    | nil => simp
    | cons a l ih =>
      have := sup_len 2 a.to
      simp only [List.flatMap_cons, List.length_append, List.length_cons]
      omega
  have h1 := this (s.set.take i)
  have h2 : (s.set.take i).length ≤ i := by simp; omega
  rw [List.length_append]; omega
theorem readsL_succ {s : Step} {i : Nat} {a : Assign} (h : s.set[i]? = some a) : readsL s (i + 1) = readsL s i ++ a.to.sup 2 := by
  unfold readsL
  rw [take_succ_of h, List.flatMap_append, List.append_assoc]
  simp
theorem reads_den (s : Step) (hs : s.set.length < 2 ^ 20) : Den Γ G 31 [(.agg [.t (ti (s).kind), .t (ti (s).fr), .t (ti (s).to), .t (ti ((s).guard).op), .t (ti ((s).guard).w), .t (ti ((s).guard).n), .t (.sl (((s).guard).kids.map Expr.enc)), .t (.sl ((s).set.map Assign.enc)), .t (tb (s).release), .t (ti (s).target), .t (ti (s).module)])] = some (.t (ints (readsM s))) := by
  (refine den_ofY Γ31 rfl ?_; dsimp only [f31])
  simp -dsimp -implicitDefEqProofs only [go_sem, seval]
  refine rawK_of (nxt_of (supportP_den s.guard _ _)) ?_
  rintro r h0 n0 ⟨⟨u3, u2, rfl, o3, o2, _, _⟩, hn0⟩
  have x3 := o3.valOf
  have x2 := o2.valOf
  simp -dsimp -implicitDefEqProofs only [go_sem, seval, x3, x2]
  refine loopYH 4294705616 s.set.length (fun i f h x => (f 18).v = vi i ∧ OwnB h x (f 4).v 1 (rowsI (readsL s i))) rfl ⟨by simp -dsimp -implicitDefEqProofs only [go_sem, seval], ?_⟩ ?_
  · simp -dsimp -implicitDefEqProofs only [go_sem, seval]
    have : readsL s 0 = s.guard.sup 2 := by simp [readsL]
    rw [this]
    exact o2.le (by omega)
  rintro i f u H x bs hi ⟨h18, hown⟩
  have hw := wrapS i (by omega)
  simp -dsimp -implicitDefEqProofs only [go_sem, seval, h18]
  refine csplit (fun h => ?_) (fun h => ?_) <;> (try rw [h]) <;> (try simp only [bools] at h) <;> (try simp -dsimp -implicitDefEqProofs only [go_sem, seval, h18])
  · obtain ⟨a, ha, _⟩ := get_of ‹i < s.set.length›
    have v1 := hown.valOf
    simp -dsimp -implicitDefEqProofs only [go_sem, seval, h18, ha, v1]
    refine rawK_of (nxt_of (supportP_den a.to _ _)) ?_
    rintro r h1 n1 ⟨⟨w3, w2, rfl, p3, p2, hle1, hkp⟩, hn1⟩
    have y3 := p3.valOf
    have y2 := p2.valOf
    have hown' : OwnB h1 n1 (f 4).v 1 (rowsI (readsL s i)) := hown.keep (by omega) (fun k hk _ => (hkp k (by omega)).1)
    have z1 := hown'.rowsS
    have z2 := p2.rowsS
    simp -dsimp -implicitDefEqProofs only [go_sem, seval, h18, v1, y3, y2, z1, z2]
    have hrl := readsL_len s i
    have hsl := sup_len 2 a.to
    refine putA_app hown' (by omega) (by rw [rowsI_len, rowsI_len]; omega) (by decide) (rowsI_all _) (rowsI_all _) ?_
    intro v hp hO _ _
    have hap : rowsI (readsL s i) ++ rowsI (a.to.sup 2) = rowsI (readsL s (i + 1)) := by rw [readsL_succ ha]; simp [rowsI]
    rw [hap] at hO
    have w1 := hO.valOf
    simp -dsimp -implicitDefEqProofs only [go_sem, seval, w1, h18]
    exact ⟨by omega, by simp -dsimp -implicitDefEqProofs only [go_sem, seval, hw], by simp -dsimp -implicitDefEqProofs only [go_sem, seval]; exact hO.le (by omega)⟩
  · have : i = s.set.length := by omega
    subst this
    have v1 := hown.valOf
    have hrl := readsL_len s s.set.length
    simp -dsimp -implicitDefEqProofs only [go_sem, seval, v1]
    refine rawK_of (sorted_den H x _ _ _ hown (by omega)) ?_
    rintro r h' n' hsh
    have hrm : readsM s = sortedM (readsL s s.set.length) := by simp [readsM, readsL]
    rw [hrm]
    rcases hsh with ⟨rfl, he⟩ | ⟨k, m, rfl, hk⟩
    · simp -dsimp -implicitDefEqProofs only [go_sem, seval]
      (try (rw [he]; rfl))
    · have q1 : List.take (sortedM (readsL s s.set.length)).length (rowsI (sortedM (readsL s s.set.length) ++ m)) = rowsI (sortedM (readsL s s.set.length)) := by simp [rowsI]
      have q2 : (rowsI (sortedM (readsL s s.set.length) ++ m)).length = (sortedM (readsL s s.set.length)).length + m.length := by rw [rowsI_len, List.length_append]
      simp -dsimp -implicitDefEqProofs only [go_sem, seval, hk, q1, q2, Nat.le_add_right, rowsI_toT]
      (try rfl)
end Rg
end
section
/- Rh: layer 11: independent steps. No condition. -/
set_option linter.unusedSimpArgs false
set_option linter.unusedVariables false
namespace Rg
open Go
theorem target_den (s : Step) : Den Γ G 58 [(.agg [.t (ti (s).kind), .t (ti (s).fr), .t (ti (s).to), .t (ti ((s).guard).op), .t (ti ((s).guard).w), .t (ti ((s).guard).n), .t (.sl (((s).guard).kids.map Expr.enc)), .t (.sl ((s).set.map Assign.enc)), .t (tb (s).release), .t (ti (s).target), .t (ti (s).module)])] = some (vi (targetM s)) := by
  (refine den_ofY Γ58 rfl ?_; dsimp only [f58])
  simp -dsimp -implicitDefEqProofs only [go_sem, seval]
  repeat' (refine csplit (fun h => ?_) (fun h => ?_) <;> (try rw [h]) <;> (try simp only [bools] at h) <;> (try simp -dsimp -implicitDefEqProofs only [go_sem, seval]))
  all_goals (simp_all [targetM])
theorem apart_den (a b : List Int) (ha : a.length < 2 ^ 50) (hb : b.length < 2 ^ 50) : Den Γ G 59 [.t (ints a), .t (ints b)] = some (vb (apartM a b)) := by
  (refine den_ofY Γ59 rfl ?_; dsimp only [f59])
  simp -dsimp -implicitDefEqProofs only [go_sem, seval]
  refine loopY 262128 a.length (fun i f => (f 5).v = vi i ∧ (a.take i).all (fun n => !decide (n ∈ b)) = true) rfl rfl ⟨by simp -dsimp -implicitDefEqProofs only [go_sem, seval], by simp⟩ ?_
  rintro i f u kk bb hi ⟨h5, hall⟩
  have hw := wrapS i (by omega)
  simp -dsimp -implicitDefEqProofs only [go_sem, seval, h5]
  refine csplit (fun h => ?_) (fun h => ?_) <;> (try rw [h]) <;> (try simp only [bools] at h) <;> (try simp -dsimp -implicitDefEqProofs only [go_sem, seval, h5])
  · obtain ⟨y, hy, hym⟩ := get_of ‹i < a.length›
    have h1 := hasI_den b y hb
    simp -dsimp -implicitDefEqProofs only [go_sem, seval, h5, hy, h1]
    by_cases hm : y ∈ b
    · have : apartM a b = false := by rw [apartM]; exact all_false_of hym (by simp [hm])
      simp -dsimp -implicitDefEqProofs only [go_sem, seval, h5, hm, decide_true]
      rw [this]
    · simp -dsimp -implicitDefEqProofs only [go_sem, seval, h5, hm, decide_false]
      refine ⟨by omega, by simp -dsimp -implicitDefEqProofs only [go_sem, seval, hw], ?_⟩
      rw [take_succ_of hy, List.all_append, hall]
      simp [hm]
  · have : i = a.length := by omega
    subst this
    rw [List.take_length] at hall
    rw [apartM, hall]
theorem writesM_len (s : Step) : (writesM s).length ≤ s.set.length := by
  have := sortedM_len (s.set.map Assign.cell)
  simpa [writesM] using this
theorem readsM_len (s : Step) : (readsM s).length ≤ 32 + 32 * s.set.length := by
  have h1 := sortedM_len (readsL s s.set.length)
  have h2 := readsL_len s s.set.length
  have hrm : readsM s = sortedM (readsL s s.set.length) := by simp [readsM, readsL]
  rw [hrm]; omega
theorem indep_den (a : Int) (s : Step) (b : Int) (t : Step) (hs : s.set.length < 2 ^ 20) (ht : t.set.length < 2 ^ 20) : Den Γ G 30 [vi a, (.agg [.t (ti (s).kind), .t (ti (s).fr), .t (ti (s).to), .t (ti ((s).guard).op), .t (ti ((s).guard).w), .t (ti ((s).guard).n), .t (.sl (((s).guard).kids.map Expr.enc)), .t (.sl ((s).set.map Assign.enc)), .t (tb (s).release), .t (ti (s).target), .t (ti (s).module)]), vi b, (.agg [.t (ti (t).kind), .t (ti (t).fr), .t (ti (t).to), .t (ti ((t).guard).op), .t (ti ((t).guard).w), .t (ti ((t).guard).n), .t (.sl (((t).guard).kids.map Expr.enc)), .t (.sl ((t).set.map Assign.enc)), .t (tb (t).release), .t (ti (t).target), .t (ti (t).module)])] = some (vb (indepM a s b t)) := by
  have w1 := writes_den s (by omega)
  have w2 := writes_den t (by omega)
  have r1 := reads_den s hs
  have r2 := reads_den t ht
  have l1 := writesM_len s
  have l2 := writesM_len t
  have l3 := readsM_len s
  have l4 := readsM_len t
  have t1 := target_den s
  have t2 := target_den t
  have a1 := apart_den (writesM s) (writesM t) (by omega) (by omega)
  have a2 := apart_den (writesM s) (readsM t) (by omega) (by omega)
  have a3 := apart_den (writesM t) (readsM s) (by omega) (by omega)
  have hx : indepM a s b t = (!(decide (targetM s = b) || decide (targetM t = a) || (decide (0 ≤ targetM s) && decide (targetM s = targetM t))) && apartM (writesM s) (writesM t) && apartM (writesM s) (readsM t) && apartM (writesM t) (readsM s)) := rfl
  (refine den_ofY Γ30 rfl ?_; dsimp only [f30])
  rw [hx]
  clear hx
  generalize targetM s = ts at *
  generalize targetM t = tt at *
  generalize apartM (writesM s) (writesM t) = q1 at *
  generalize apartM (writesM s) (readsM t) = q2 at *
  generalize apartM (writesM t) (readsM s) = q3 at *
  simp -dsimp -implicitDefEqProofs only [go_sem, seval, t1, t2]
  cases q1 <;> cases q2 <;> cases q3
  all_goals (
    repeat' (refine csplit (fun h => ?_) (fun h => ?_) <;> (try rw [h]) <;> (try simp only [bools] at h) <;> (try simp -dsimp -implicitDefEqProofs only [go_sem, seval, t1, t2, w1, w2, r1, r2, a1, a2, a3]))
    all_goals (simp_all; (try omega)))
end Rg
end
section
/- Rh: layer 11: the fifth law. No condition. -/
set_option linter.unusedSimpArgs false
set_option linter.unusedVariables false
set_option maxRecDepth 10000
namespace Rg
open Go
theorem ind_of {p : Prog} (hfo : formedM p = true) {a b i j : Nat} {x y : Thread} {s t : Step} (hx : p.threads[a]? = some x) (hs : x.steps[i]? = some s) (hy : p.threads[b]? = some y) (ht : y.steps[j]? = some t) (hne : a ≠ b)
    (h : indepM a s b t = true) : Ind p a s b t := by
  simp only [indepM, Bool.and_eq_true, Bool.not_eq_true', Bool.or_eq_false_iff, decide_eq_false_iff_not, Bool.and_eq_false_iff, apart_iff] at h
  obtain ⟨⟨⟨⟨⟨h1, h2⟩, h3⟩, h4⟩, h5⟩, h6⟩ := h
  exact ⟨hne, ⟨x, formed_step hfo hx hs⟩, ⟨y, formed_step hfo hy ht⟩, h1, h2, fun ⟨q1, q2⟩ => h3.elim (fun h => h q1) (fun h => h q2), h4, h5, h6⟩
/-- Two independent steps can be executed in both orders. -/
theorem ind_next {p : Prog} (hfo : formedM p = true) {c : Config} (hc : isM p c = true) {a b i j : Nat} {x y : Thread} {s t : Step} (hx : p.threads[a]? = some x) (hs : x.steps[i]? = some s) (hy : p.threads[b]? = some y) (ht : y.steps[j]? = some t)
    (h : Ind p a s b t) (he : enabledM p c b t = true) : nextM p (execS p c a s) ⟨b, j, 0⟩ = (execS p (execS p c a s) b t, 0) := by
  have hd := exec_is hfo hc hx hs
  have hm : (⟨b, j, 0⟩ : Choice) ∈ choicesM p (execS p c a s) := choices_mem.2 ⟨b, y, j, t, hy, ht, (ind_enabled h).trans he, rfl⟩
  obtain ⟨t', z, j', s', hz, hsj, _, he', hn, _⟩ := next_ok hfo hd hm
  simp only [Choice.mk.injEq, Int.natCast_inj, and_true] at he'
  obtain ⟨rfl, rfl⟩ := he'
  rw [hy] at hz; cases hz
  rw [ht] at hsj; cases hsj
  exact hn
theorem law6_den (p : Prog) (hl : p.lite) (picks : List Int) (hpk : ∀ k ∈ picks, 0 ≤ k ∧ k < 256) :
    Den Γ G 6 [(.agg [.t (.sl ((p).cells.map (Cell.enc))), .t (.sl ((p).modules.map (Contract.enc))), .t (.sl ((p).locks.map (Lock.enc))), .t (.sl ((p).threads.map (Thread.enc)))]), .t (bytesT picks)] = some (vb true) := by
  (refine den_ofY Γ6 rfl ?_; dsimp only [f6])
  have h1 := good_den p hl
  have hlb : (picks.map fun n => [T.int .u8 n]).length = picks.length := by simp
  simp -dsimp -implicitDefEqProofs only [go_sem, seval, head_den, h1]
  cases hg : goodM p
  · simp -dsimp -implicitDefEqProofs only [go_sem, seval]
  · simp -dsimp -implicitDefEqProofs only [go_sem, seval, hlb]
    by_cases hlen : picks.length ≤ 40
    · have hlen' : decide ((picks.length : Int) > 40) = false := by simp; omega
      simp only [goodM, Bool.and_eq_true] at hg
      obtain ⟨hf, hfo⟩ := hg
      have hs := few_sane hl hf
      have a5 := walkR_den p hs picks hpk hlen
      have hc := walk_sane hs picks
      have hi := walk_is hfo picks
      generalize walkM p picks = c at *
      have a1 := enabledRL_den p hs c hc
      rw [enabledL_eq hfo hi] at a1
      have hel := enabled_len (p := p) c
      rw [enabledL_eq hfo hi] at hel
      simp -dsimp -implicitDefEqProofs only [go_sem, seval, hlen', a5, a1]
      refine loopY 87112285931760246646623899502515482525456 (choicesM p c).length (fun i f => (f 8).v = vi i) rfl rfl (by simp -dsimp -implicitDefEqProofs only [go_sem, seval]) ?_
      rintro i f u kk bb hi8 h8
      have hw := wrapS i (by omega)
      simp -dsimp -implicitDefEqProofs only [go_sem, seval, h8]
      refine csplit (fun h => ?_) (fun h => ?_) <;> (try rw [h]) <;> (try simp only [bools] at h) <;> (try simp -dsimp -implicitDefEqProofs only [go_sem, seval, h8])
      · have hlt : i < (choicesM p c).length := ‹i < (choicesM p c).length›
        obtain ⟨y1, hy1, hm1⟩ := get_of hlt
        obtain ⟨ta, z1, j1, s, hz1, hs1, he1, rfl, hn1, hd1⟩ := next_ok hfo hi hm1
        refine loopY 87112285931760246646623899501433150766608 i (fun k f => (f 9).v = vi k) rfl rfl (by simp -dsimp -implicitDefEqProofs only [go_sem, seval]) ?_
        rintro k f2 u2 kk2 bb2 hk9 h9
        have hw9 := wrapS k (by omega)
        simp -dsimp -implicitDefEqProofs only [go_sem, seval, h8, h9]
        refine csplit (fun h => ?_) (fun h => ?_) <;> (try rw [h]) <;> (try simp only [bools] at h) <;> (try simp -dsimp -implicitDefEqProofs only [go_sem, seval, h8, h9])
        · have hkl : k < i := ‹k < i›
          obtain ⟨y2, hy2, hm2⟩ := get_of (show k < (choicesM p c).length by omega)
          obtain ⟨tb, z2, j2, t, hz2, hs2, he2, rfl, hn2, hd2⟩ := next_ok hfo hi hm2
          by_cases hne : ta = tb
          · subst hne
            simp -dsimp -implicitDefEqProofs only [go_sem, seval, h8, h9, hy1, hy2]
            exact ⟨by omega, by simp -dsimp -implicitDefEqProofs only [go_sem, seval, hw9]⟩
          · have hne' : ¬ (ta : Int) = (tb : Int) := by omega
            obtain ⟨sl1, _⟩ := few_set hf hz1 hs1
            obtain ⟨sl2, _⟩ := few_set hf hz2 hs2
            have b0 := indep_den ta s tb t (by omega) (by omega)
            cases hin : indepM ta s tb t
            · rw [hin] at b0
              simp -dsimp -implicitDefEqProofs only [go_sem, seval, h8, h9, hy1, hy2, hne', hz1, hz2, hs1, hs2, b0]
              exact ⟨by omega, by simp -dsimp -implicitDefEqProofs only [go_sem, seval, hw9]⟩
            · rw [hin] at b0
              have hind := ind_of hfo hz1 hs1 hz2 hs2 hne hin
              have n1 := ind_next hfo hi hz1 hs1 hz2 hs2 hind he2
              have n2 := ind_next hfo hi hz2 hs2 hz1 hs1 hind.symm he1
              have d1 := next_sane hs hc ⟨ta, j1, 0⟩
              have d2 := next_sane hs hc ⟨tb, j2, 0⟩
              have b1 := nextP_den p hs c hc ⟨ta, j1, 0⟩
              have b2 := nextP_den p hs c hc ⟨tb, j2, 0⟩
              rw [hn1] at b1 d1
              rw [hn2] at b2 d2
              have b3 := nextP_den p hs _ d1 ⟨tb, j2, 0⟩
              have b4 := nextP_den p hs _ d2 ⟨ta, j1, 0⟩
              have d3 := next_sane hs d1 ⟨tb, j2, 0⟩
              have hbf := next_buf (p := p) (c := execS p c ta s) (x := ⟨tb, j2, 0⟩)
              rw [n1] at b3 d3 hbf
              rw [n2, ← ind_exec hind] at b4
              have b5 := same_den _ (execS p (execS p c ta s) tb t) d3 hbf
              rw [decide_eq_true rfl] at b5
              simp -dsimp -implicitDefEqProofs only [go_sem, seval, h8, h9, hy1, hy2, hne', hz1, hz2, hs1, hs2, b0, b1, b2, b3, b4, b5]
              exact ⟨by omega, by simp -dsimp -implicitDefEqProofs only [go_sem, seval, hw9]⟩
        · exact ⟨by omega, by simp -dsimp -implicitDefEqProofs only [go_sem, seval, hw]⟩
    · have hlen' : decide ((picks.length : Int) > 40) = true := by simp; omega
      simp -dsimp -implicitDefEqProofs only [go_sem, seval, hlen']
end Rg
end
