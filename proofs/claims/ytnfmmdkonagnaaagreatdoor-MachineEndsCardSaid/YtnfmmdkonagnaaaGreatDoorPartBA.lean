/- Part of the proof of the laws of the package relyguardlaw11: an abstract machine for the program's functions, what they compute, and that the machine is the program's. No condition. (H11t) -/
import Derived.Test.YtnfmmdkonagnaaaGreatDoorPartAZ
section
/- Rh: layer 11: configurations that are reached are configurations of the program. No condition. -/
set_option linter.unusedSimpArgs false
set_option linter.unusedVariables false
namespace Rg
open Go
/-- What a configuration of a program is. -/
structure IsC (p : Prog) (c : Config) : Prop where
  lm : c.mem.length = p.cells.length
  la : c.at_.length = p.threads.length
  lb : c.buf.length = p.threads.length
  mem : ∀ (i : Nat) (v : Int) (y : Cell), c.mem[i]? = some v → p.cells[i]? = some y → 0 ≤ v ∧ v < 2 ^ y.w.toNat
  at_ : ∀ (i : Nat) (a : Int) (x : Thread), c.at_[i]? = some a → p.threads[i]? = some x → -1 ≤ a ∧ a < x.points ∧ (a = -1 → x.asleep = true)
  buf : ∀ b ∈ c.buf, b = []
theorem zip_all {α β : Type} {l : List α} {m : List β} {f : α × β → Bool} : (l.zip m).all f = true ↔ ∀ (i : Nat) (a : α) (b : β), l[i]? = some a → m[i]? = some b → f (a, b) = true := by
  rw [List.all_eq_true]
  constructor
  · intro h i a b ha hb
    exact h _ (List.mem_of_getElem? (zip_get ha hb))
  · intro h q hq
    obtain ⟨i, hi⟩ := List.getElem?_of_mem hq
    rw [List.getElem?_zip_eq_some] at hi
    exact h i _ _ hi.1 hi.2
theorem is_iff {p : Prog} {c : Config} : isM p c = true ↔ IsC p c := by
  simp only [isM, fitsM, Bool.and_eq_true, decide_eq_true_eq, zip_all]
  simp only [cellFit, atFit, List.all_eq_true, Bool.and_eq_true, decide_eq_true_eq, Bool.not_eq_true', Bool.and_eq_false_iff, decide_eq_false_iff_not, Bool.not_eq_false', List.isEmpty_iff]
  constructor
  · rintro ⟨⟨⟨⟨⟨h1, h2⟩, h3⟩, h4⟩, h5⟩, h6⟩
    exact ⟨h1, h2, h5, h3, fun i a x ha hx => ⟨(h4 i a x ha hx).1.1, (h4 i a x ha hx).1.2, fun h0 => by
      rcases (h4 i a x ha hx).2 with h | h
      · exact absurd h0 h
      · exact h⟩, h6⟩
  · rintro ⟨h1, h2, h5, h3, h4, h6⟩
    refine ⟨⟨⟨⟨⟨h1, h2⟩, h3⟩, fun i a x ha hx => ⟨⟨(h4 i a x ha hx).1, (h4 i a x ha hx).2.1⟩, ?_⟩⟩, h5⟩, h6⟩
    by_cases h0 : a = -1
    · exact .inr ((h4 i a x ha hx).2.2 h0)
    · exact .inl h0
theorem start_is {p : Prog} (hf : formedM p = true) : isM p (startM p) = true := by
  rw [is_iff, startM, if_pos hf]
  refine ⟨by simp, by simp, by simp, ?_, ?_, ?_⟩
  · intro i v y hv hy
    simp only [List.getElem?_map, hy, Option.map_some, Option.some.injEq] at hv
    subst hv
    exact (formed_cell hf (List.mem_of_getElem? hy)).2.2
  · intro i a x ha hx
    simp only [List.getElem?_map, hx, Option.map_some, Option.some.injEq] at ha
    have := points_bound hf hx
    subst ha
    split
    · rename_i h; exact ⟨by omega, by omega, fun _ => h⟩
    · exact ⟨by omega, by omega, by omega⟩
  · intro b hb
    simp only [List.mem_map] at hb
    obtain ⟨_, _, rfl⟩ := hb
    rfl
theorem eval_bound (e : Expr) (old now : List Int) : 0 ≤ e.eval old now ∧ e.eval old now < 2 ^ e.w.toNat := by
  unfold Expr.eval
  split
  · rename_i h; exact ev_bound old now 40 e (formed_deep h)
  · exact ⟨by omega, pow2_pos _⟩
theorem write_at {p : Prog} {view : List Int} : ∀ {set : List Assign} {mem : List Int},
    (∀ a ∈ set, ∃ y, p.cells[a.cell.toNat]? = some y ∧ a.to.w = y.w) →
    (∀ (i : Nat) (v : Int) (y : Cell), mem[i]? = some v → p.cells[i]? = some y → 0 ≤ v ∧ v < 2 ^ y.w.toNat) →
    ∀ (i : Nat) (v : Int) (y : Cell), (writeM mem view set)[i]? = some v → p.cells[i]? = some y → 0 ≤ v ∧ v < 2 ^ y.w.toNat
  | [], mem, _, hm => hm
  | a :: r, mem, hw, hm => by
    have : writeM mem view (a :: r) = writeM (mem.set a.cell.toNat (a.to.eval view view)) view r := rfl
    rw [this]
    refine write_at (fun b hb => hw b (List.mem_cons_of_mem _ hb)) ?_
    intro i v y hv hy
    rw [List.getElem?_set] at hv
    split at hv
    · rename_i hi
      split at hv
      · cases hv
        obtain ⟨z, hz, hzw⟩ := hw a List.mem_cons_self
        rw [hi, hy] at hz; cases hz
        rw [← hzw]; exact eval_bound _ _ _
      · simp at hv
    · exact hm i v y hv hy
theorem exec_is {p : Prog} (hf : formedM p = true) {c : Config} (hc : isM p c = true) {t i : Nat} {x : Thread} {s : Step} (hx : p.threads[t]? = some x) (hs : x.steps[i]? = some s) : isM p (execS p c t s) = true := by
  rw [is_iff] at hc ⊢
  have hok := formed_step hf hx hs
  refine ⟨by simp only [execS, write_len]; exact hc.lm, ?_, by simp [execS], ?_, ?_, ?_⟩
  · simp only [execS]; split <;> simp <;> exact hc.la
  · exact write_at hok.wid hc.mem
  · have key : ∀ (j : Nat) (a : Int) (z : Thread), (c.at_.set t s.to)[j]? = some a → p.threads[j]? = some z → -1 ≤ a ∧ a < z.points ∧ (a = -1 → z.asleep = true) := by
      intro j a z ha hz
      rw [List.getElem?_set] at ha
      split at ha
      · rename_i hj
        split at ha
        · cases ha
          subst hj
          rw [hx] at hz; cases hz
          have := hok.to
          exact ⟨by omega, by omega, by omega⟩
        · simp at ha
      · exact hc.at_ j a z ha hz
    intro j a z ha hz
    simp only [execS] at ha
    split at ha
    · rw [List.getElem?_set] at ha
      split at ha
      · split at ha
        · cases ha
          have := points_bound hf hz
          exact ⟨by omega, by omega, by omega⟩
        · simp at ha
      · exact key j a z ha hz
    · exact key j a z ha hz
  · intro b hb
    simp only [execS, List.mem_map] at hb
    obtain ⟨_, _, rfl⟩ := hb
    rfl
/-- What a choice that is offered leads to. -/
theorem next_ok {p : Prog} (hf : formedM p = true) {c : Config} (hc : isM p c = true) {y : Choice} (hy : y ∈ choicesM p c) :
    ∃ (t : Nat) (x : Thread) (i : Nat) (s : Step), p.threads[t]? = some x ∧ x.steps[i]? = some s ∧ enabledM p c t s = true ∧ y = ⟨t, i, 0⟩ ∧ nextM p c y = (execS p c t s, 0) ∧ isM p (execS p c t s) = true := by
  obtain ⟨t, x, i, s, hx, hs, he, rfl⟩ := choices_mem.1 hy
  refine ⟨t, x, i, s, hx, hs, he, rfl, ?_, exec_is hf hc hx hs⟩
  rw [nextM, hf, hc]
  simp only [Bool.and_self, if_true, (hasM_iff _ _).2 hy]
  simp [execM, stepAt, hx, hs]
theorem next_no {p : Prog} (hf : formedM p = true) {c : Config} (hc : isM p c = true) {y : Choice} (hy : ¬ y ∈ choicesM p c) : nextM p c y = (zeroC, 110) := by
  rw [nextM, hf, hc]
  have : hasM (choicesM p c) y = false := by rw [← Bool.not_eq_true, hasM_iff]; exact hy
  simp [this]
theorem pick_mem {l : List Choice} (h : l ≠ []) (k : Int) : pickAt l k ∈ l := by
  have hl : 0 < l.length := List.length_pos_iff.2 h
  have : k.toNat % l.length < l.length := Nat.mod_lt _ hl
  rw [pickAt, List.getD_eq_getElem?_getD, List.getElem?_eq_getElem this]
  exact List.getElem_mem _
theorem enabledL_eq {p : Prog} (hf : formedM p = true) {c : Config} (hc : isM p c = true) : enabledL p c = choicesM p c := by
  rw [enabledL, hf, hc]; rfl
theorem walkGo_is {p : Prog} (hf : formedM p = true) : ∀ (l : List Int) (c : Config), isM p c = true → isM p (walkGo p c l) = true
  | [], c, h => h
  | k :: r, c, h => by
    rw [walkGo]
    split
    · exact h
    · rename_i hne
      have hm := pick_mem hne k
      rw [enabledL_eq hf h] at hm
      obtain ⟨t, x, i, s, hx, hs, he, hy, hn, hi⟩ := next_ok hf h hm
      rw [enabledL_eq hf h, hn]
      exact walkGo_is hf r _ hi
theorem walk_is {p : Prog} (hf : formedM p = true) (l : List Int) : isM p (walkM p l) = true := walkGo_is hf l _ (start_is hf)
end Rg
end
