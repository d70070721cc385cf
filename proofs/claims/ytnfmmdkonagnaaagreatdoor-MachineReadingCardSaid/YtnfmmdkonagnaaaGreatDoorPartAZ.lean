/- Part of the proof of the laws of the package relyguardlaw11: an abstract machine for the program's functions, what they compute, and that the machine is the program's. No condition. (H11t H12a H12b H12c H12d H13a H13b H14a H14b H15a H15b H15c H15d H15e H15f H15g) -/
import Derived.Test.YtnfmmdkonagnaaaGreatDoorPartAY
set_option linter.unusedSimpArgs false
set_option linter.unusedVariables false
section
namespace Rg
open Go
structure IsC (p : Prog) (c : Config) : Prop where
  lm : c.mem.length = p.cells.length
  la : c.at_.length = p.threads.length
  lb : c.buf.length = p.threads.length
  mem : ∀ (i : Nat) (v : Int) (y : Cell), c.mem[i]? = some v → p.cells[i]? = some y → 0 ≤ v ∧ v < 2 ^ y.w.toNat
  at_ : ∀ (i : Nat) (a : Int) (x : Thread), c.at_[i]? = some a → p.threads[i]? = some x → -1 ≤ a ∧ a < x.points ∧ (a = -1 → x.asleep = true)
  buf : ∀ b ∈ c.buf, b = []
theorem zip_all {α β : Type} {l : List α} {m : List β} {f : α × β → Bool} : (l.zip m).all f = true ↔ ∀ (i : Nat) (a : α) (b : β), l[i]? = some a → m[i]? = some b → f (a, b) = true := by
  rw [List.all_eq_true]
  constructor
  · intro h i a b ha hb
    exact h _ (List.mem_of_getElem? (zip_get ha hb))
  · intro h q hq
    obtain ⟨i, hi⟩ := List.getElem?_of_mem hq
    rw [List.getElem?_zip_eq_some] at hi
    exact h i _ _ hi.1 hi.2
theorem is_iff {p : Prog} {c : Config} : isM p c = true ↔ IsC p c := by
  simp only [isM, fitsM, Bool.and_eq_true, decide_eq_true_eq, zip_all]
  simp only [cellFit, atFit, List.all_eq_true, Bool.and_eq_true, decide_eq_true_eq, Bool.not_eq_true', Bool.and_eq_false_iff, decide_eq_false_iff_not, Bool.not_eq_false', List.isEmpty_iff]
  constructor
  · rintro ⟨⟨⟨⟨⟨h1, h2⟩, h3⟩, h4⟩, h5⟩, h6⟩
    exact ⟨h1, h2, h5, h3, fun i a x ha hx => ⟨(h4 i a x ha hx).1.1, (h4 i a x ha hx).1.2, fun h0 => by
      rcases (h4 i a x ha hx).2 with h | h
      · exact absurd h0 h
      · exact h⟩, h6⟩
  · rintro ⟨h1, h2, h5, h3, h4, h6⟩
    refine ⟨⟨⟨⟨⟨h1, h2⟩, h3⟩, fun i a x ha hx => ⟨⟨(h4 i a x ha hx).1, (h4 i a x ha hx).2.1⟩, ?_⟩⟩, h5⟩, h6⟩
    by_cases h0 : a = -1
    · exact .inr ((h4 i a x ha hx).2.2 h0)
    · exact .inl h0
theorem start_is {p : Prog} (hf : formedM p = true) : isM p (startM p) = true := by
  rw [is_iff, startM, if_pos hf]
  refine ⟨by simp, by simp, by simp, ?_, ?_, ?_⟩
  · intro i v y hv hy
    simp only [List.getElem?_map, hy, Option.map_some, Option.some.injEq] at hv
    subst hv
    exact (formed_cell hf (List.mem_of_getElem? hy)).2.2
  · intro i a x ha hx
    simp only [List.getElem?_map, hx, Option.map_some, Option.some.injEq] at ha
    have := points_bound hf hx
    subst ha
    split
    · rename_i h; exact ⟨by omega, by omega, fun _ => h⟩
    · exact ⟨by omega, by omega, by omega⟩
  · intro b hb
    simp only [List.mem_map] at hb
    obtain ⟨_, _, rfl⟩ := hb
    rfl
theorem eval_bound (e : Expr) (old now : List Int) : 0 ≤ e.eval old now ∧ e.eval old now < 2 ^ e.w.toNat := by
  unfold Expr.eval
  split
  · rename_i h; exact ev_bound old now 40 e (formed_deep h)
  · exact ⟨by omega, pow2_pos _⟩
theorem write_at {p : Prog} {view : List Int} : ∀ {set : List Assign} {mem : List Int},
    (∀ a ∈ set, ∃ y, p.cells[a.cell.toNat]? = some y ∧ a.to.w = y.w) →
    (∀ (i : Nat) (v : Int) (y : Cell), mem[i]? = some v → p.cells[i]? = some y → 0 ≤ v ∧ v < 2 ^ y.w.toNat) →
    ∀ (i : Nat) (v : Int) (y : Cell), (writeM mem view set)[i]? = some v → p.cells[i]? = some y → 0 ≤ v ∧ v < 2 ^ y.w.toNat
  | [], mem, _, hm => hm
  | a :: r, mem, hw, hm => by
    have : writeM mem view (a :: r) = writeM (mem.set a.cell.toNat (a.to.eval view view)) view r := rfl
    rw [this]
    refine write_at (fun b hb => hw b (List.mem_cons_of_mem _ hb)) ?_
    intro i v y hv hy
    rw [List.getElem?_set] at hv
    split at hv
    · rename_i hi
      split at hv
      · cases hv
        obtain ⟨z, hz, hzw⟩ := hw a List.mem_cons_self
        rw [hi, hy] at hz; cases hz
        rw [← hzw]; exact eval_bound _ _ _
      · simp at hv
    · exact hm i v y hv hy
theorem exec_is {p : Prog} (hf : formedM p = true) {c : Config} (hc : isM p c = true) {t i : Nat} {x : Thread} {s : Step} (hx : p.threads[t]? = some x) (hs : x.steps[i]? = some s) : isM p (execS p c t s) = true := by
  rw [is_iff] at hc ⊢
  have hok := formed_step hf hx hs
  refine ⟨by simp only [execS, write_len]; exact hc.lm, ?_, by simp [execS], ?_, ?_, ?_⟩
  · simp only [execS]; split <;> simp <;> exact hc.la
  · exact write_at hok.wid hc.mem
  · have key : ∀ (j : Nat) (a : Int) (z : Thread), (c.at_.set t s.to)[j]? = some a → p.threads[j]? = some z → -1 ≤ a ∧ a < z.points ∧ (a = -1 → z.asleep = true) := by
      intro j a z ha hz
      rw [List.getElem?_set] at ha
      split at ha
      · rename_i hj
        split at ha
        · cases ha
          subst hj
          rw [hx] at hz; cases hz
          have := hok.to
          exact ⟨by omega, by omega, by omega⟩
        · simp at ha
      · exact hc.at_ j a z ha hz
    intro j a z ha hz
    simp only [execS] at ha
    split at ha
    · rw [List.getElem?_set] at ha
      split at ha
      · split at ha
        · cases ha
          have := points_bound hf hz
          exact ⟨by omega, by omega, by omega⟩
        · simp at ha
      · exact key j a z ha hz
    · exact key j a z ha hz
  · intro b hb
    simp only [execS, List.mem_map] at hb
    obtain ⟨_, _, rfl⟩ := hb
    rfl
theorem next_ok {p : Prog} (hf : formedM p = true) {c : Config} (hc : isM p c = true) {y : Choice} (hy : y ∈ choicesM p c) :
    ∃ (t : Nat) (x : Thread) (i : Nat) (s : Step), p.threads[t]? = some x ∧ x.steps[i]? = some s ∧ enabledM p c t s = true ∧ y = ⟨t, i, 0⟩ ∧ nextM p c y = (execS p c t s, 0) ∧ isM p (execS p c t s) = true := by
  obtain ⟨t, x, i, s, hx, hs, he, rfl⟩ := choices_mem.1 hy
  refine ⟨t, x, i, s, hx, hs, he, rfl, ?_, exec_is hf hc hx hs⟩
  rw [nextM, hf, hc]
  simp only [Bool.and_self, if_true, (hasM_iff _ _).2 hy]
  simp [execM, stepAt, hx, hs]
theorem pick_mem {l : List Choice} (h : l ≠ []) (k : Int) : pickAt l k ∈ l := by
  have hl : 0 < l.length := List.length_pos_iff.2 h
  have : k.toNat % l.length < l.length := Nat.mod_lt _ hl
  rw [pickAt, List.getD_eq_getElem?_getD, List.getElem?_eq_getElem this]
  exact List.getElem_mem _
theorem enabledL_eq {p : Prog} (hf : formedM p = true) {c : Config} (hc : isM p c = true) : enabledL p c = choicesM p c := by
  rw [enabledL, hf, hc]; rfl
theorem walkGo_is {p : Prog} (hf : formedM p = true) : ∀ (l : List Int) (c : Config), isM p c = true → isM p (walkGo p c l) = true
  | [], c, h => h
  | k :: r, c, h => by
    rw [walkGo]
    split
    · exact h
    · rename_i hne
      have hm := pick_mem hne k
      rw [enabledL_eq hf h] at hm
      obtain ⟨t, x, i, s, hx, hs, he, hy, hn, hi⟩ := next_ok hf h hm
      rw [enabledL_eq hf h, hn]
      exact walkGo_is hf r _ hi
theorem walk_is {p : Prog} (hf : formedM p = true) (l : List Int) : isM p (walkM p l) = true := walkGo_is hf l _ (start_is hf)
end Rg
end
section
namespace Rg
open Go
namespace Expr
mutual
def mapL (f : Expr → Expr) : Expr → Expr
  | .mk o w n [] => f (.mk o w n [])
  | .mk o w n (k :: ks) => .mk o w n (mapL f k :: mapLs f ks)
def mapLs (f : Expr → Expr) : List Expr → List Expr
  | [] => []
  | e :: r => mapL f e :: mapLs f r
end
theorem mapLs_eq (f : Expr → Expr) : ∀ l : List Expr, mapLs f l = l.map (mapL f)
  | [] => rfl
  | e :: r => by rw [mapLs, mapLs_eq f r]; rfl
theorem mapL_leaf {f : Expr → Expr} {e : Expr} (h : e.kids = []) : e.mapL f = f e := by
  obtain ⟨o, w, n, ks⟩ := e
  cases ks with
  | nil => rfl
  | cons k ks => simp [Expr.kids] at h
theorem mapL_node {f : Expr → Expr} {e : Expr} (h : e.kids ≠ []) : e.mapL f = .mk e.op e.w e.n (e.kids.map (mapL f)) := by
  obtain ⟨o, w, n, ks⟩ := e
  cases ks with
  | nil => simp [Expr.kids] at h
  | cons k ks => rw [mapL, mapLs_eq]; rfl
end Expr
def Cut (h : Nat → Option O) (lo hi : Nat) (cs : List V) (e : Expr) : Prop :=
  ∃ x, cs = [.t (ti e.op), .t (ti e.w), .t (ti e.n), x] ∧ V.cells x = some [x] ∧
    ∀ h2 d, e.size ≤ d → (∀ k, lo ≤ k → k < hi → h2 k = h k) → toT h2 d x = some (.sl (e.kids.map Expr.enc))
theorem Cut.mono {h h' : Nat → Option O} {lo hi lo' hi' : Nat} {cs : List V} {e : Expr} (c : Cut h lo hi cs e) (h1 : lo' ≤ lo) (h2 : hi ≤ hi') (hh : ∀ k, lo ≤ k → k < hi → h' k = h k) : Cut h' lo' hi' cs e := by
  obtain ⟨x, hc, hx, ht⟩ := c
  exact ⟨x, hc, hx, fun g d hd hg => ht g d hd fun k k1 k2 => (hg k (by omega) (by omega)).trans (hh k k1 k2)⟩
theorem Cut.tree (h : Nat → Option O) (lo hi : Nat) (e : Expr) : Cut h lo hi [.t (ti e.op), .t (ti e.w), .t (ti e.n), .t (.sl (e.kids.map Expr.enc))] e :=
  ⟨_, rfl, rfl, fun _ d _ _ => by cases d <;> rfl⟩
end Rg
end
section
namespace Rg
open Go
theorem mapL_same (e : Expr) : e.mapL (fun x => x) = e := by
  induction e using Expr.ind with
  | _ e ih =>
  by_cases hk : e.kids = []
  · exact Expr.mapL_leaf hk
  · rw [Expr.mapL_node hk]
    have : e.kids.map (Expr.mapL fun x => x) = e.kids := by
      have := List.map_congr_left (f := Expr.mapL fun x => x) (g := id) (l := e.kids) fun k hk => ih k hk
      simpa using this
    rw [this]
    obtain ⟨o, w, n, ks⟩ := e
    rfl
end Rg
end
section
namespace Rg
open Go
def asg (set : List Assign) (c : Int) : Option Expr := (set.find? fun a => decide (a.cell = c)).map Assign.to
end Rg
end
section
namespace Rg
open Go
end Rg
end
section
namespace Rg
open Go
theorem node_inner {e : Expr} (h : nodeOk e = true) (hk : e.kids ≠ []) : e.op ≠ 1 ∧ e.op ≠ 2 ∧ e.op ≠ 3 := by
  have ha := node_arity h
  refine ⟨fun ho => ?_, fun ho => ?_, fun ho => ?_⟩ <;> rw [ho] at ha <;> simp [arity] at ha <;> exact hk (List.eq_nil_of_length_eq_zero (by omega))
theorem lv_mem {e x : Expr} (h : x ∈ e.lv) : x.kids = [] := by
  induction e using Expr.ind with
  | _ e ih =>
    rw [Expr.lv_eq] at h
    split at h
    · rename_i hk; rw [List.mem_singleton.1 h]; exact hk
    · obtain ⟨k, hk, hx⟩ := List.mem_flatMap.1 h
      exact ih k hk hx
theorem lv_kid {e k : Expr} (hk : k ∈ e.kids) {x : Expr} (hx : x ∈ k.lv) : x ∈ e.lv := by
  rw [Expr.lv_eq, if_neg (by intro h; rw [h] at hk; simp at hk)]
  exact List.mem_flatMap.2 ⟨k, hk, hx⟩
theorem lv_self {e : Expr} (hk : e.kids = []) : e ∈ e.lv := by rw [Expr.lv_eq, if_pos hk]; simp
theorem lv_deep {x : Expr} : ∀ {d : Nat} {e : Expr}, e.deep d = true → x ∈ e.lv → nodeOk x = true := by
  intro d
  induction d with
  | zero => intro e h; simp [Expr.deep] at h
  | succ d ih =>
    intro e h hx
    rw [Expr.lv_eq] at hx
    split at hx
    · rw [List.mem_singleton.1 hx]; exact deep_node h
    · obtain ⟨k, hk, hx⟩ := List.mem_flatMap.1 hx
      exact ih (deep_kid h hk) hx
theorem lv_allE {f : Expr → Bool} {x : Expr} : ∀ {e : Expr}, e.allE f = true → x ∈ e.lv → f x = true := by
  intro e
  induction e using Expr.ind with
  | _ e ih =>
    intro h hx
    rw [Expr.lv_eq] at hx
    split at hx
    · rw [List.mem_singleton.1 hx]; exact Expr.allE_self h
    · obtain ⟨k, hk, hx⟩ := List.mem_flatMap.1 hx
      exact ih k hk (Expr.allE_kid h hk) hx
theorem mapL_ev {f : Expr → Expr} {o1 m1 o2 m2 : List Int} : ∀ {d : Nat} {e : Expr}, e.deep d = true → (∀ x ∈ e.lv, (f x).ev o1 m1 = x.ev o2 m2) → (e.mapL f).ev o1 m1 = e.ev o2 m2 := by
  intro d
  induction d with
  | zero => intro e h; simp [Expr.deep] at h
  | succ d ih =>
    intro e h hl
    by_cases hk : e.kids = []
    · rw [Expr.mapL_leaf hk]; exact hl e (lv_self hk)
    · obtain ⟨n1, n2, n3⟩ := node_inner (deep_node h) hk
      rw [Expr.mapL_node hk, Expr.ev_eq, Expr.ev_eq o2 m2 e]
      have : (e.kids.map (Expr.mapL f)).map (Expr.ev o1 m1) = e.kids.map (Expr.ev o2 m2) := by
        rw [List.map_map]
        exact List.map_congr_left fun k hk => ih (deep_kid h hk) fun x hx => hl x (lv_kid hk hx)
      simp only [go_sem, n1, n2, n3, if_false, this]
theorem write_off {view : List Int} {c : Nat} : ∀ {set : List Assign} {mem : List Int}, (∀ a ∈ set, 0 ≤ a.cell ∧ a.cell ≠ c) → (writeM mem view set)[c]? = mem[c]?
  | [], mem, _ => rfl
  | a :: r, mem, h => by
    have e : writeM mem view (a :: r) = writeM (mem.set a.cell.toNat (a.to.eval view view)) view r := rfl
    have h0 := h a (by simp)
    rw [e, write_off fun b hb => h b (by simp [hb]), List.getElem?_set, if_neg (by omega)]
theorem write_on {view : List Int} {c : Nat} : ∀ {set : List Assign} {mem : List Int} {t : Expr}, (∀ a ∈ set, 0 ≤ a.cell) → (∀ (i j : Nat) (a b : Assign), set[i]? = some a → set[j]? = some b → a.cell = b.cell → i = j) →
    asg set c = some t → c < mem.length → (writeM mem view set)[c]? = some (t.eval view view)
  | [], mem, t, _, _, h, _ => by simp [asg] at h
  | a :: r, mem, t, h0, hd, h, hc => by
    have e : writeM mem view (a :: r) = writeM (mem.set a.cell.toNat (a.to.eval view view)) view r := rfl
    have ha := h0 a (by simp)
    rw [e]
    by_cases hac : a.cell = c
    · have ht : t = a.to := by simp [asg, List.find?_cons, hac] at h; exact h.symm
      subst ht
      rw [write_off fun b hb => ⟨h0 b (by simp [hb]), fun hbc => ?_⟩, List.getElem?_set, if_pos (by omega), if_pos (by omega)]
      obtain ⟨j, hj⟩ := List.getElem?_of_mem hb
      have := hd 0 (j + 1) a b rfl (by simpa using hj) (by omega)
      omega
    · have h' : asg r c = some t := by simpa [asg, List.find?_cons, hac] using h
      exact write_on (fun b hb => h0 b (by simp [hb])) (fun i j x y hi hj hxy => by
        have := hd (i + 1) (j + 1) x y (by simpa using hi) (by simpa using hj) hxy
        omega) h' (by simpa using hc)
theorem asg_mem {set : List Assign} {c : Int} {t : Expr} (h : asg set c = some t) : ∃ a ∈ set, a.cell = c ∧ a.to = t := by
  unfold asg at h
  rw [Option.map_eq_some_iff] at h
  obtain ⟨a, ha, rfl⟩ := h
  exact ⟨a, List.mem_of_find?_eq_some ha, by simpa using List.find?_some ha, rfl⟩
theorem asg_none {set : List Assign} {c : Int} (h : asg set c = none) : ∀ a ∈ set, a.cell ≠ c := by
  unfold asg at h
  rw [Option.map_eq_none_iff, List.find?_eq_none] at h
  intro a ha
  simpa using h a ha
structure SetOk (p : Prog) (set : List Assign) : Prop where
  rng : ∀ a ∈ set, inR a.cell p.cells.length = true ∧ a.to.valid p.cells false = true
  wid : ∀ a ∈ set, ∃ y, p.cells[a.cell.toNat]? = some y ∧ a.to.w = y.w
  dif : ∀ (i j : Nat) (a b : Assign), set[i]? = some a → set[j]? = some b → a.cell = b.cell → i = j
theorem valid_lv {cells : List Cell} {e x : Expr} (h : e.valid cells false = true) (hx : x ∈ e.lv) : x.kids = [] ∧ nodeOk x = true ∧ (x.op = 1 ∨ x.op = 2 ∧ 0 ≤ x.n ∧ x.n < 32 ∧ ∃ c, cells[x.n.toNat]? = some c ∧ c.w = x.w) := by
  simp only [Expr.valid, Bool.and_eq_true] at h
  have hk := lv_mem hx
  have hn := lv_deep (formed_deep h.1) hx
  have hl := lv_allE h.2 hx
  have hc := lv_allE (deep_lcS 40 e (formed_deep h.1)) hx
  simp only [lcS, Bool.and_eq_true, decide_eq_true_eq] at hc
  refine ⟨hk, hn, ?_⟩
  have h3 : x.op ≠ 3 := fun h3 => by simp [leafOk, h3] at hl
  rcases hc.1.2 hk with h1 | ⟨h2 | h2, hlt⟩
  · exact .inl h1
  · refine .inr ⟨h2, hc.1.1, hlt, ?_⟩
    simp only [leafOk, h2] at hl
    cases hcc : cells[x.n.toNat]? with
    | none => simp [hcc] at hl
    | some c => exact ⟨c, rfl, by simpa [hcc] using hl⟩
  · exact absurd h2 h3
end Rg
end
section
namespace Rg
open Go
theorem formed_set {p : Prog} (hf : formedM p = true) {t i : Nat} {x : Thread} {s : Step} (hx : p.threads[t]? = some x) (hs : x.steps[i]? = some s) : SetOk p s.set :=
  let h := formed_step hf hx hs
  ⟨h.rng.2, h.wid, h.dif⟩
theorem few_set {p : Prog} (hf : fewM p = true) {t i : Nat} {x : Thread} {s : Step} (hx : p.threads[t]? = some x) (hs : x.steps[i]? = some s) : s.set.length ≤ 8 ∧ ∀ a ∈ s.set, a.to.size ≤ 30 := by
  simp only [fewM, Bool.and_eq_true, decide_eq_true_eq, List.all_eq_true] at hf
  obtain ⟨⟨⟨⟨⟨⟨h1, h2⟩, h3⟩, h4⟩, h5⟩, h6⟩, h7⟩ := hf
  have ht := (fewGo_mem h5 (by omega) x (List.mem_of_getElem? hx)).2.2.2.2
  simp only [fewT, Bool.and_eq_true, List.all_eq_true] at ht
  have hst := ht.1.1 s (List.mem_of_getElem? hs)
  simp only [fewS, fewA, Bool.and_eq_true, List.all_eq_true, decide_eq_true_eq] at hst
  exact ⟨by omega, fun a ha => by have := hst.2 a ha; omega⟩
theorem rem_in {a : Int} (ha : 0 ≤ a) {n : Nat} (hn : 0 < n) : 0 ≤ a.tmod n ∧ (a.tmod n).toNat < n := by
  rw [Int.tmod_eq_emod_of_nonneg ha]
  have h1 := Int.emod_nonneg a (b := (n : Int)) (by omega)
  have h2 := Int.emod_lt_of_pos a (b := (n : Int)) (by omega)
  omega
end Rg
end
section
namespace Rg
open Go
theorem intsOf_rowsI : ∀ l : List Int, intsOf (rowsI l) = some l
  | [] => rfl
  | a :: l => by
    have : rowsI (a :: l) = [.t (.int .i64 a)] :: rowsI l := rfl
    rw [this, intsOf, intsOf_rowsI l]; rfl
theorem ofInts_rowsI (l : List Int) : ofInts l = rowsI l := by simp [ofInts, rowsI]
def sortedM (l : List Int) : List Int := Go.Lib.compact (l.mergeSort fun x y => decide (x ≤ y))
theorem compact_mem (l : List Int) (x : Int) : x ∈ Go.Lib.compact l ↔ x ∈ l := by
  unfold Go.Lib.compact Go.Lib.compactUpTo
  simp only [List.mem_map, List.mem_filter, List.mem_range]
  constructor
  · rintro ⟨j, ⟨hj, _⟩, rfl⟩
    simp [hj]
  · intro hx
    obtain ⟨i, hi⟩ := List.getElem?_of_mem hx
    have key : ∀ i : Nat, l[i]? = some x → ∃ a, (a < l.length ∧ Go.Lib.keeps l.toArray a = true) ∧ l.toArray[a]! = x := by
      intro i
      induction i with
      | zero =>
        intro h
        obtain ⟨h1, h2⟩ := List.getElem?_eq_some_iff.1 h
        exact ⟨0, ⟨h1, by simp [Go.Lib.keeps]⟩, by simp [h1, h2]⟩
      | succ i ih =>
        intro h
        obtain ⟨h1, h2⟩ := List.getElem?_eq_some_iff.1 h
        by_cases he : l[i]? = some x
        · exact ih he
        · refine ⟨i + 1, ⟨h1, ?_⟩, by simp [h1, h2]⟩
          have hi : i < l.length := by omega
          have : ¬ l[i + 1] = l[i] := by
            intro hh
            rw [List.getElem?_eq_getElem hi] at he
            exact he (by rw [← hh, h2])
          simp [Go.Lib.keeps, h1, hi, this]
    exact key i hi
theorem sortedM_mem (l : List Int) (x : Int) : x ∈ sortedM l ↔ x ∈ l := by
  rw [sortedM, compact_mem, List.mem_mergeSort]
theorem compactL (l : List Int) : (Go.Lib.compact l).length ≤ l.length := by
  unfold Go.Lib.compact Go.Lib.compactUpTo
  rw [List.length_map]
  exact Nat.le_trans (List.length_filter_le _ _) (by simp)
theorem sortedM_len (l : List Int) : (sortedM l).length ≤ l.length := by
  have := compactL (l.mergeSort fun x y => decide (x ≤ y))
  rwa [List.length_mergeSort] at this
def Shown (h : Nat → Option O) (r : V) (l : List Int) : Prop := (r = .t .nils ∧ l = []) ∨ ∃ k m, r = .ms k 0 l.length ∧ h k = some (.rows 1 (rowsI (l ++ m)) false)
theorem sorted_den (H : Nat → Option O) (x n : Nat) (v : V) (l : List Int) (ho : OwnB H x v 1 (rowsI l)) (hl : l.length < 2 ^ 40) :
    ∃ r h' n', DenR Γ G 57 [v] H n = some (r, h', n') ∧ Shown h' r (sortedM l) := by
  (refine denR_ofY Γ57 rfl ?_; dsimp only [f57])
  rcases ho with ⟨rfl, hr⟩ | ⟨k, rfl, hk, hh⟩
  · have hl0 : l = [] := by
      have := congrArg List.length hr
      rw [rowsI_len] at this
      exact List.eq_nil_of_length_eq_zero this
    subst hl0
    have a1 : ∀ n, DenR Γ G 74 [.t .nils] H n = some (.tup [], H, n) := fun n => denR_ext Γ74 rfl rfl rfl
    have a2 : ∀ n, DenR Γ G 75 [.t .nils] H n = some (.t .nils, H, n) := fun n => denR_ext Γ75 rfl rfl rfl
    simp -dsimp -implicitDefEqProofs only [go_sem, seval, a1, a2]
    exact .inl ⟨rfl, by rw [sortedM, List.mergeSort_nil]; rfl⟩
  · rw [rowsI_len]
    have s1 : (l.mergeSort fun x y => decide (x ≤ y)).length = l.length := List.length_mergeSort _
    have a1 : ∀ n, DenR Γ G 74 [.ms k 0 l.length] H n = some (.tup [], upd H k (some (.rows 1 (rowsI (l.mergeSort fun x y => decide (x ≤ y))) false)), n) := fun n => denR_ext Γ74 rfl rfl (by
      simp only [extSem, hh, intsOf_rowsI, Option.bind_some, ofInts_rowsI]
      rw [if_pos (by exact ⟨trivial, by omega⟩)])
    have a2 : ∀ n, DenR Γ G 75 [.ms k 0 l.length] (upd H k (some (.rows 1 (rowsI (l.mergeSort fun x y => decide (x ≤ y))) false))) n = some (.ms k 0 (sortedM l).length, upd (upd H k (some (.rows 1 (rowsI (l.mergeSort fun x y => decide (x ≤ y))) false))) k (some (.rows 1 (rowsI (sortedM l ++ List.replicate (l.length - (sortedM l).length) 0)) false)), n) := fun n => denR_ext Γ75 rfl rfl (by
      simp only [extSem, upd_same, intsOf_rowsI, Option.bind_some, ofInts_rowsI]
      rw [if_pos ⟨s1, by omega⟩, s1]; rfl)
    simp -dsimp -implicitDefEqProofs only [go_sem, seval, a1, a2]
    exact .inr ⟨k, _, rfl, upd_same _ _ _⟩
def writesM (s : Step) : List Int := sortedM (s.set.map Assign.cell)
theorem writes_den (s : Step) (hs : s.set.length < 2 ^ 31) : Den Γ G 28 [(.agg [.t (ti (s).kind), .t (ti (s).fr), .t (ti (s).to), .t (ti ((s).guard).op), .t (ti ((s).guard).w), .t (ti ((s).guard).n), .t (.sl (((s).guard).kids.map Expr.enc)), .t (.sl ((s).set.map Assign.enc)), .t (tb (s).release), .t (ti (s).target), .t (ti (s).module)])] = some (.t (ints (writesM s))) := by
  (refine den_ofY Γ28 rfl ?_; dsimp only [f28])
  simp -dsimp -implicitDefEqProofs only [go_sem, seval]
  refine loopYH 523816 s.set.length (fun i f h x => (f 9).v = vi i ∧ OwnB h x (f 3).v 1 (rowsI ((s.set.map Assign.cell).take i))) rfl ⟨by simp -dsimp -implicitDefEqProofs only [go_sem, seval], .inl ⟨by simp -dsimp -implicitDefEqProofs only [go_sem, seval], rfl⟩⟩ ?_
  rintro i f u H x bs hi ⟨h9, hown⟩
  have hw := wrapS i (by omega)
  simp -dsimp -implicitDefEqProofs only [go_sem, seval, h9]
  refine csplit (fun h => ?_) (fun h => ?_) <;> (try rw [h]) <;> (try simp only [bools] at h) <;> (try simp -dsimp -implicitDefEqProofs only [go_sem, seval, h9])
  · obtain ⟨a, ha, _⟩ := get_of ‹i < s.set.length›
    have ha' : (s.set.map Assign.cell)[i]? = some a.cell := by simp [ha]
    have v1 := hown.valOf
    have v2 := hown.r2
    have v3 := hown.r3
    simp -dsimp -implicitDefEqProofs only [go_sem, seval, h9, ha, v1, v2, v3]
    refine putA_app1 (hown.upd (by omega) _) (by omega) (by rw [rowsI_len]; simp; omega) (by decide) rfl (rowsI_all _) ?_
    intro v hp hO hoffs hkeep
    have w1 := hO.valOf
    rw [show rowsI ((s.set.map Assign.cell).take i) ++ [[V.t (ti a.cell)]] = rowsI ((s.set.map Assign.cell).take (i + 1)) from by rw [take_succ_of ha', rowsI_app]] at hO
    simp -dsimp -implicitDefEqProofs only [go_sem, seval, w1, h9]
    exact ⟨by omega, by simp -dsimp -implicitDefEqProofs only [go_sem, seval, hw], by simp -dsimp -implicitDefEqProofs only [go_sem, seval]; exact hO.le (by omega)⟩
  · have : i = s.set.length := by omega
    subst this
    rw [show (s.set.map Assign.cell).take s.set.length = s.set.map Assign.cell from List.take_of_length_le (by simp)] at hown
    have v1 := hown.valOf
    simp -dsimp -implicitDefEqProofs only [go_sem, seval, v1]
    refine rawK_of (sorted_den H x _ _ _ hown (by simp; omega)) ?_
    rintro r h' n' hsh
    rcases hsh with ⟨rfl, he⟩ | ⟨k, m, rfl, hk⟩
    · simp -dsimp -implicitDefEqProofs only [go_sem, seval]
      rw [writesM, he]; rfl
    · have q1 : List.take (sortedM (s.set.map Assign.cell)).length (rowsI (sortedM (s.set.map Assign.cell) ++ m)) = rowsI (sortedM (s.set.map Assign.cell)) := by simp [rowsI]
      have q2 : (rowsI (sortedM (s.set.map Assign.cell) ++ m)).length = (sortedM (s.set.map Assign.cell)).length + m.length := by rw [rowsI_len, List.length_append]
      simp -dsimp -implicitDefEqProofs only [go_sem, seval, hk, q1, q2, Nat.le_add_right, rowsI_toT]
      rfl
end Rg
end
section
namespace Rg
open Go
theorem hasI_den (l : List Int) (n : Int) (hl : l.length < 2 ^ 50) : Den Γ G 29 [.t (ints l), vi n] = some (vb (decide (n ∈ l))) := by
  (refine den_ofY Γ29 rfl ?_; dsimp only [f29])
  simp -dsimp -implicitDefEqProofs only [go_sem, seval]
  refine loopY 262128 l.length (fun i f => (f 5).v = vi i ∧ n ∉ l.take i) rfl rfl ⟨by simp -dsimp -implicitDefEqProofs only [go_sem, seval], by simp⟩ ?_
  rintro i f u kk bb hi ⟨h3, hno⟩
  have hw := wrapS i (by omega)
  simp -dsimp -implicitDefEqProofs only [go_sem, seval, h3]
  refine csplit (fun h => ?_) (fun h => ?_) <;> (try rw [h]) <;> (try simp only [bools] at h) <;> (try simp -dsimp -implicitDefEqProofs only [go_sem, seval, h3])
  · obtain ⟨y, hy, hym⟩ := get_of ‹i < l.length›
    simp -dsimp -implicitDefEqProofs only [go_sem, seval, h3, hy]
    refine csplit (fun h => ?_) (fun h => ?_) <;> (try rw [h]) <;> (try simp only [bools] at h) <;> (try simp -dsimp -implicitDefEqProofs only [go_sem, seval, h3])
    · have : n ∈ l := by rw [← h]; exact hym
      simp [this]
    · refine ⟨by omega, by simp -dsimp -implicitDefEqProofs only [go_sem, seval, hw], ?_⟩
      rw [take_succ_of hy]
      simp only [List.mem_append, List.mem_singleton, not_or]
      exact ⟨hno, fun e => h e.symm⟩
  · have : i = l.length := by omega
    subst this
    rw [List.take_length] at hno
    simp [hno]
end Rg
end
section
namespace Rg
open Go
theorem marked_mem (l : List Bool) (m : Nat) (n : Nat) : (n : Int) ∈ marked l m ↔ n < m ∧ l.getD n false = true := by
  unfold marked
  simp only [List.mem_map, List.mem_filter, List.mem_range]
  constructor
  · rintro ⟨j, ⟨hj, hg⟩, he⟩
    have : j = n := by omega
    subst this
    exact ⟨hj, hg⟩
  · rintro ⟨hj, hg⟩
    exact ⟨n, ⟨hj, hg⟩, rfl⟩
theorem fold_mark_keep (op : Int) (n : Nat) : ∀ (l : List Expr) (s : List Bool), s.getD n false = true → (l.foldl (markS op) s).getD n false = true
  | [], s, h => h
  | x :: l, s, h => by
    rw [List.foldl_cons]
    refine fold_mark_keep op n l _ ?_
    unfold markS
    split
    · rw [List.getD_eq_getElem?_getD, List.getElem?_set]
      split
      · split
        · rfl
        · rename_i he hlt
          subst he
          rw [List.getD_eq_getElem?_getD, List.getElem?_eq_none (by omega)] at h
          simp at h
      · rw [← List.getD_eq_getElem?_getD]; exact h
    · exact h
theorem fold_mark (op : Int) {n : Nat} : ∀ (l : List Expr) (s : List Bool), n < s.length → (∃ x ∈ l, x.op = op ∧ x.n.toNat = n) → (l.foldl (markS op) s).getD n false = true
  | [], s, _, h => by obtain ⟨x, hx, _⟩ := h; simp at hx
  | y :: l, s, hn, h => by
    rw [List.foldl_cons]
    by_cases hy : y.op = op ∧ y.n.toNat = n
    · refine fold_mark_keep op n l _ ?_
      rw [markS, if_pos hy.1, List.getD_eq_getElem?_getD, List.getElem?_set, if_pos hy.2, if_pos (by omega)]; rfl
    · refine fold_mark op l _ (by rw [markS_len]; exact hn) ?_
      obtain ⟨x, hx, h1⟩ := h
      rcases List.mem_cons.1 hx with rfl | hx
      · exact absurd h1 hy
      · exact ⟨x, hx, h1⟩
theorem sup_lv {e x : Expr} (hf : e.formed = true) (hx : x ∈ e.lv) (ho : x.op = 2) (h0 : 0 ≤ x.n) (h1 : x.n < 32) : x.n ∈ e.sup 2 := by
  rw [Expr.sup, if_pos hf]
  have := (marked_mem (e.occ 2) 32 x.n.toNat).2 ⟨by omega, fold_mark 2 e.lv _ (by simp; omega) ⟨x, hx, ho, rfl⟩⟩
  rwa [show ((x.n.toNat : Nat) : Int) = x.n by omega] at this
def Agree (l : List Int) (m m' : List Int) : Prop := ∀ n : Nat, (n : Int) ∈ l → m[n]? = m'[n]?
theorem eval_agree {cells : List Cell} {e : Expr} (he : e.valid cells false = true) {m m' o o' : List Int} (h : Agree (e.sup 2) m m') : e.eval o m = e.eval o' m' := by
  have hv := he
  simp only [Expr.valid, Bool.and_eq_true] at hv
  rw [Expr.eval, Expr.eval, if_pos hv.1, if_pos hv.1]
  have := mapL_ev (f := fun x => x) (o1 := o) (o2 := o') (m1 := m) (m2 := m') (formed_deep hv.1) (fun x hx => by
    obtain ⟨hk, hn, ho⟩ := valid_lv he hx
    rcases ho with ho | ⟨ho, h0, hlt, _⟩
    · simp [Expr.ev_eq, ho]
    · have hm := sup_lv hv.1 hx ho h0 hlt
      have hg := h x.n.toNat (by rw [show ((x.n.toNat : Nat) : Int) = x.n by omega]; exact hm)
      have : atI m x.n = atI m' x.n := by simp [atI, List.getD_eq_getElem?_getD, hg]
      simp [Expr.ev_eq, ho, this])
  rwa [mapL_same] at this
def readsM (s : Step) : List Int := sortedM (s.guard.sup 2 ++ s.set.flatMap fun a => a.to.sup 2)
theorem reads_guard {s : Step} {n : Int} (h : n ∈ s.guard.sup 2) : n ∈ readsM s := by
  rw [readsM, sortedM_mem]; exact List.mem_append_left _ h
theorem reads_set {s : Step} {a : Assign} (ha : a ∈ s.set) {n : Int} (h : n ∈ a.to.sup 2) : n ∈ readsM s := by
  rw [readsM, sortedM_mem]; exact List.mem_append_right _ (List.mem_flatMap.2 ⟨a, ha, h⟩)
theorem guard_agree {p : Prog} {s : Step} (hv : s.guard.valid p.cells false = true) {m m' : List Int} (h : Agree (readsM s) m m') : s.guard.eval m m = s.guard.eval m' m' :=
  eval_agree hv fun n hn => h n (reads_guard hn)
theorem set_agree {p : Prog} {s : Step} (hs : SetOk p s.set) {m m' : List Int} (h : Agree (readsM s) m m') {a : Assign} (ha : a ∈ s.set) : a.to.eval m m = a.to.eval m' m' :=
  eval_agree (hs.rng a ha).2 fun n hn => h n (reads_set ha hn)
end Rg
end
section
namespace Rg
open Go
def targetM (s : Step) : Int := if s.kind = 6 ∨ s.kind = 7 then s.target else -1
structure Ind (p : Prog) (a : Nat) (s : Step) (b : Nat) (t : Step) : Prop where
  ne : a ≠ b
  hs : ∃ x, StepOk p a x s
  ht : ∃ x, StepOk p b x t
  tb : targetM s ≠ b
  ta : targetM t ≠ a
  tt : ¬ (0 ≤ targetM s ∧ targetM s = targetM t)
  ww : ∀ n ∈ writesM s, n ∉ writesM t
  wr : ∀ n ∈ writesM s, n ∉ readsM t
  rw : ∀ n ∈ writesM t, n ∉ readsM s
theorem StepOk.set {p : Prog} {t : Int} {x : Thread} {s : Step} (h : StepOk p t x s) : SetOk p s.set := ⟨h.rng.2, h.wid, h.dif⟩
theorem Ind.symm {p : Prog} {a b : Nat} {s t : Step} (h : Ind p a s b t) : Ind p b t a s :=
  ⟨h.ne.symm, h.ht, h.hs, h.ta, h.tb, fun ⟨h1, h2⟩ => h.tt ⟨h2 ▸ h1, h2.symm⟩, fun n h1 h2 => h.ww n h2 h1, h.rw, h.wr⟩
end Rg
end
section
namespace Rg
open Go
def readsL (s : Step) (i : Nat) : List Int := s.guard.sup 2 ++ (s.set.take i).flatMap fun a => a.to.sup 2
theorem readsL_len (s : Step) (i : Nat) : (readsL s i).length ≤ 32 + 32 * i := by
  unfold readsL
  have h0 := sup_len 2 s.guard
  have : ∀ l : List Assign, (l.flatMap fun a => a.to.sup 2).length ≤ 32 * l.length := by
    intro l
    induction l with
    | nil => simp
    | cons a l ih =>
      have := sup_len 2 a.to
      simp only [List.flatMap_cons, List.length_append, List.length_cons]
      omega
  have h1 := this (s.set.take i)
  have h2 : (s.set.take i).length ≤ i := by simp; omega
  rw [List.length_append]; omega
theorem readsL_succ {s : Step} {i : Nat} {a : Assign} (h : s.set[i]? = some a) : readsL s (i + 1) = readsL s i ++ a.to.sup 2 := by
  unfold readsL
  rw [take_succ_of h, List.flatMap_append, List.append_assoc]
  simp
theorem reads_den (s : Step) (hs : s.set.length < 2 ^ 20) : Den Γ G 31 [(.agg [.t (ti (s).kind), .t (ti (s).fr), .t (ti (s).to), .t (ti ((s).guard).op), .t (ti ((s).guard).w), .t (ti ((s).guard).n), .t (.sl (((s).guard).kids.map Expr.enc)), .t (.sl ((s).set.map Assign.enc)), .t (tb (s).release), .t (ti (s).target), .t (ti (s).module)])] = some (.t (ints (readsM s))) := by
  (refine den_ofY Γ31 rfl ?_; dsimp only [f31])
  simp -dsimp -implicitDefEqProofs only [go_sem, seval]
  refine rawK_of (nxt_of (supportP_den s.guard _ _)) ?_
  rintro r h0 n0 ⟨⟨u3, u2, rfl, o3, o2, _, _⟩, hn0⟩
  have x3 := o3.valOf
  have x2 := o2.valOf
  simp -dsimp -implicitDefEqProofs only [go_sem, seval, x3, x2]
  refine loopYH 4294705616 s.set.length (fun i f h x => (f 18).v = vi i ∧ OwnB h x (f 4).v 1 (rowsI (readsL s i))) rfl ⟨by simp -dsimp -implicitDefEqProofs only [go_sem, seval], ?_⟩ ?_
  · simp -dsimp -implicitDefEqProofs only [go_sem, seval]
    have : readsL s 0 = s.guard.sup 2 := by simp [readsL]
    rw [this]
    exact o2.le (by omega)
  rintro i f u H x bs hi ⟨h18, hown⟩
  have hw := wrapS i (by omega)
  simp -dsimp -implicitDefEqProofs only [go_sem, seval, h18]
  refine csplit (fun h => ?_) (fun h => ?_) <;> (try rw [h]) <;> (try simp only [bools] at h) <;> (try simp -dsimp -implicitDefEqProofs only [go_sem, seval, h18])
  · obtain ⟨a, ha, _⟩ := get_of ‹i < s.set.length›
    have v1 := hown.valOf
    simp -dsimp -implicitDefEqProofs only [go_sem, seval, h18, ha, v1]
    refine rawK_of (nxt_of (supportP_den a.to _ _)) ?_
    rintro r h1 n1 ⟨⟨w3, w2, rfl, p3, p2, hle1, hkp⟩, hn1⟩
    have y3 := p3.valOf
    have y2 := p2.valOf
    have hown' : OwnB h1 n1 (f 4).v 1 (rowsI (readsL s i)) := hown.keep (by omega) (fun k hk _ => (hkp k (by omega)).1)
    have z1 := hown'.rowsS
    have z2 := p2.rowsS
    simp -dsimp -implicitDefEqProofs only [go_sem, seval, h18, v1, y3, y2, z1, z2]
    have hrl := readsL_len s i
    have hsl := sup_len 2 a.to
    refine putA_app hown' (by omega) (by rw [rowsI_len, rowsI_len]; omega) (by decide) (rowsI_all _) (rowsI_all _) ?_
    intro v hp hO _ _
    have hap : rowsI (readsL s i) ++ rowsI (a.to.sup 2) = rowsI (readsL s (i + 1)) := by rw [readsL_succ ha]; simp [rowsI]
    rw [hap] at hO
    have w1 := hO.valOf
    simp -dsimp -implicitDefEqProofs only [go_sem, seval, w1, h18]
    exact ⟨by omega, by simp -dsimp -implicitDefEqProofs only [go_sem, seval, hw], by simp -dsimp -implicitDefEqProofs only [go_sem, seval]; exact hO.le (by omega)⟩
  · have : i = s.set.length := by omega
    subst this
    have v1 := hown.valOf
    have hrl := readsL_len s s.set.length
    simp -dsimp -implicitDefEqProofs only [go_sem, seval, v1]
    refine rawK_of (sorted_den H x _ _ _ hown (by omega)) ?_
    rintro r h' n' hsh
    have hrm : readsM s = sortedM (readsL s s.set.length) := by simp [readsM, readsL]
    rw [hrm]
    rcases hsh with ⟨rfl, he⟩ | ⟨k, m, rfl, hk⟩
    · simp -dsimp -implicitDefEqProofs only [go_sem, seval]
      (try (rw [he]; rfl))
    · have q1 : List.take (sortedM (readsL s s.set.length)).length (rowsI (sortedM (readsL s s.set.length) ++ m)) = rowsI (sortedM (readsL s s.set.length)) := by simp [rowsI]
      have q2 : (rowsI (sortedM (readsL s s.set.length) ++ m)).length = (sortedM (readsL s s.set.length)).length + m.length := by rw [rowsI_len, List.length_append]
      simp -dsimp -implicitDefEqProofs only [go_sem, seval, hk, q1, q2, Nat.le_add_right, rowsI_toT]
      (try rfl)
end Rg
end
section
namespace Rg
open Go
theorem writesM_len (s : Step) : (writesM s).length ≤ s.set.length := by
  have := sortedM_len (s.set.map Assign.cell)
  simpa [writesM] using this
theorem readsM_len (s : Step) : (readsM s).length ≤ 32 + 32 * s.set.length := by
  have h1 := sortedM_len (readsL s s.set.length)
  have h2 := readsL_len s s.set.length
  have hrm : readsM s = sortedM (readsL s s.set.length) := by simp [readsM, readsL]
  rw [hrm]; omega
end Rg
end
section
set_option maxRecDepth 10000
namespace Rg
open Go
end Rg
end
section
namespace Rg
open Go
def chM (p : Prog) (rd other mem : List Int) : Nat → List Int
  | 0 => mem
  | i + 1 => if (i : Int) ∈ rd then chM p rd other mem i else (chM p rd other mem i).set i ((other.getD i 0).tmod (2 ^ (p.cells.getD i default).w.toNat))
theorem chM_len (p : Prog) (rd other mem : List Int) : ∀ i, (chM p rd other mem i).length = mem.length
  | 0 => rfl
  | i + 1 => by rw [chM]; split <;> simp [chM_len p rd other mem i]
theorem chM_rd (p : Prog) (rd other mem : List Int) {n : Nat} (h : (n : Int) ∈ rd) : ∀ i, (chM p rd other mem i)[n]? = mem[n]?
  | 0 => rfl
  | i + 1 => by
    rw [chM]
    split
    · exact chM_rd p rd other mem h i
    · rename_i hi
      rw [List.getElem?_set, if_neg (by rintro rfl; exact hi h)]
      exact chM_rd p rd other mem h i
theorem chM_fit (p : Prog) (rd other mem : List Int) (hp : ∀ k ∈ other, 0 ≤ k ∧ k < 256) (hm : ∀ (i : Nat) (v : Int) (y : Cell), mem[i]? = some v → p.cells[i]? = some y → 0 ≤ v ∧ v < 2 ^ y.w.toNat) :
    ∀ n (i : Nat) (v : Int) (y : Cell), (chM p rd other mem n)[i]? = some v → p.cells[i]? = some y → 0 ≤ v ∧ v < 2 ^ y.w.toNat
  | 0 => hm
  | n + 1 => by
    intro i v y hv hy
    rw [chM] at hv
    split at hv
    · exact chM_fit p rd other mem hp hm n i v y hv hy
    · rw [List.getElem?_set] at hv
      split at hv
      · rename_i he
        split at hv
        · subst he
          cases hv
          have ho : 0 ≤ other.getD n 0 := by
            rw [List.getD_eq_getElem?_getD]
            cases h : other[n]? with
            | none => simp
            | some k => simpa using (hp k (List.mem_of_getElem? h)).1
          have hw : (p.cells.getD n default).w = y.w := by simp [List.getD_eq_getElem?_getD, hy]
          rw [hw, Int.tmod_eq_emod_of_nonneg ho]
          have h2 := pow2_pos y.w.toNat
          exact ⟨Int.emod_nonneg _ (by omega), Int.emod_lt_of_pos _ h2⟩
        · cases hv
      · exact chM_fit p rd other mem hp hm n i v y hv hy
theorem ch_is {p : Prog} {c : Config} (hi : isM p c = true) {rd other : List Int} (hp : ∀ k ∈ other, 0 ≤ k ∧ k < 256) (n : Nat) : isM p ⟨chM p rd other c.mem n, c.at_, c.buf⟩ = true := by
  rw [is_iff] at hi ⊢
  exact ⟨by rw [chM_len]; exact hi.lm, hi.la, hi.lb, chM_fit p rd other c.mem hp hi.mem n, hi.at_, hi.buf⟩
theorem ch_next {p : Prog} (hfo : formedM p = true) {c : Config} (hi : isM p c = true) {t i : Nat} {x : Thread} {s : Step} (hx : p.threads[t]? = some x) (hs : x.steps[i]? = some s) (he : enabledM p c t s = true)
    {m : List Int} (hm : isM p ⟨m, c.at_, c.buf⟩ = true) (hag : Agree (readsM s) m c.mem) : nextM p ⟨m, c.at_, c.buf⟩ ⟨t, i, 0⟩ = (execS p ⟨m, c.at_, c.buf⟩ t s, 0) := by
  have hok := formed_step hfo hx hs
  have he' : enabledM p ⟨m, c.at_, c.buf⟩ t s = true := by
    rw [← he]
    unfold enabledM
    rw [guard_agree (p := p) hok.rng.1 hag]
  have hmm : (⟨t, i, 0⟩ : Choice) ∈ choicesM p ⟨m, c.at_, c.buf⟩ := choices_mem.2 ⟨t, x, i, s, hx, hs, he', rfl⟩
  obtain ⟨t', z, j', s', hz, hsj, _, heq, hn, _⟩ := next_ok hfo hm hmm
  simp only [Choice.mk.injEq, Int.natCast_inj, and_true] at heq
  obtain ⟨rfl, rfl⟩ := heq
  rw [hx] at hz; cases hz
  rw [hs] at hsj; cases hsj
  exact hn
theorem ch_write {p : Prog} {s : Step} (hs : SetOk p s.set) {m m' : List Int} (hl : m.length = p.cells.length) (hl' : m'.length = p.cells.length) (hag : Agree (readsM s) m' m) {n : Int} (hn : n ∈ writesM s) :
    0 ≤ n ∧ n < p.cells.length ∧ ∃ v, (writeM m m s.set)[n.toNat]? = some v ∧ (writeM m' m' s.set)[n.toNat]? = some v := by
  rw [writesM, sortedM_mem, List.mem_map] at hn
  obtain ⟨a, ha, rfl⟩ := hn
  have hr := (hs.rng a ha).1
  simp only [inR, decide_eq_true_eq] at hr
  have h0 : ∀ a ∈ s.set, 0 ≤ a.cell := fun a ha => by
    have := (hs.rng a ha).1
    simp only [inR, decide_eq_true_eq] at this; omega
  have hnn : ((a.cell.toNat : Nat) : Int) = a.cell := by omega
  cases hasg : asg s.set a.cell with
  | none => exact absurd rfl (asg_none hasg a ha)
  | some q =>
    obtain ⟨b, hb, _, rfl⟩ := asg_mem hasg
    refine ⟨by omega, by omega, b.to.eval m m, write_on h0 hs.dif (by rw [hnn]; exact hasg) (by omega), ?_⟩
    rw [← set_agree hs hag hb]
    exact write_on h0 hs.dif (by rw [hnn]; exact hasg) (by omega)
end Rg
end
section
set_option maxRecDepth 10000
namespace Rg
open Go
theorem denS_own {r : V} {h : Nat → Option O} {a b v : V} {t1 t2 : T} {K : V → (Nat → Option O) → Prop} {w : WK K} {x : Nat} {l : List Int} (ho : OwnB h x v 1 (rowsI l)) (ha : a.tree = true) (hb : b.tree = true)
    (hK : ∀ h', K r h') : denS (some r) false h [a, .agg [v, .t t1, .t t2], b] K w := by
  rcases ho with ⟨rfl, _⟩ | ⟨k, rfl, _, hh⟩
  · rw [denS_tree r false h _ K w (by simp only [List.all_cons, List.all_nil, ha, hb, Bool.and_true, Bool.true_and]; rfl)]
    exact hK h
  · refine denS_ms hh ?_ (fun h' _ _ => hK h')
    simp only [List.flatMap_cons, List.flatMap_nil, reach_tree ha, reach_tree hb, List.nil_append, List.append_nil]
    have e1 : reach h 1000 (.ms k 0 (rowsI l).length) = [k] := by
      simp only [reach, hh]
      rw [reach_flat h 999]
      intro r hr v hv
      simp only [rowsI, List.mem_map] at hr
      obtain ⟨_, ⟨n, _, rfl⟩, rfl⟩ := hr
      simp at hv; subst hv; rfl
    have e2 : ∀ t : T, reach h 1000 (.t t) = [] := fun _ => rfl
    simp only [reach1, List.flatMap_cons, List.flatMap_nil, e1, e2, List.append_nil]
theorem denS_of {o : Option V} {r : V} {d : Bool} {h : Nat → Option O} {vs : List V} {K : V → (Nat → Option O) → Prop} {w : WK K} (he : o = some r) (hd : denS (some r) d h vs K w) : denS o d h vs K w := he ▸ hd
theorem law7R_den (p : Prog) (hl : p.lite) (picks : List Int) (hpk : ∀ k ∈ picks, 0 ≤ k ∧ k < 256) (pick : Int) (hp : 0 ≤ pick ∧ pick < 256) (other : List Int) (hot : ∀ k ∈ other, 0 ≤ k ∧ k < 256) :
    Den Γ G 7 [(.agg [.t (.sl ((p).cells.map (Cell.enc))), .t (.sl ((p).modules.map (Contract.enc))), .t (.sl ((p).locks.map (Lock.enc))), .t (.sl ((p).threads.map (Thread.enc)))]), .t (bytesT picks), .t (.int .u8 pick), .t (bytesT other)] = some (vb true) := by
  (refine den_ofY Γ7 rfl ?_; dsimp only [f7])
  have h1 := good_den p hl
  have hlb : ∀ l : List Int, (l.map fun n => [T.int .u8 n]).length = l.length := fun l => by simp
  simp -dsimp -implicitDefEqProofs only [go_sem, seval, head_den, h1]
  cases hg : goodM p
  · simp -dsimp -implicitDefEqProofs only [go_sem, seval]
  · simp -dsimp -implicitDefEqProofs only [go_sem, seval, hlb]
    by_cases hlen : picks.length ≤ 40
    · have hlen' : decide ((picks.length : Int) > 40) = false := by simp; omega
      by_cases hol : other.length ≤ 40
      · have hol' : decide ((other.length : Int) > 40) = false := by simp; omega
        simp only [goodM, Bool.and_eq_true] at hg
        obtain ⟨hf, hfo⟩ := hg
        have hs := few_sane hl hf
        have a5 := walkR_den p hs picks hpk hlen
        have hc := walk_sane hs picks
        have hi := walk_is hfo picks
        generalize walkM p picks = c at *
        have a1 := enabledRL_den p hs c hc
        rw [enabledL_eq hfo hi] at a1
        have hel := enabled_len (p := p) c
        rw [enabledL_eq hfo hi] at hel
        simp -dsimp -implicitDefEqProofs only [go_sem, seval, hlen', hol', a5, a1]
        by_cases h0 : (choicesM p c).length = 0
        · have h0' : ((choicesM p c).length : Int) = 0 := by omega
          simp -dsimp -implicitDefEqProofs only [go_sem, seval, h0']
        · have h0' : ¬ ((choicesM p c).length : Int) = 0 := by omega
          have wp : IntKind.i64.wrap pick = pick := wrap64 (by omega)
          obtain ⟨k0, k1⟩ := rem_in hp.1 (n := (choicesM p c).length) (by omega)
          obtain ⟨y, hy, hym⟩ := get_of k1
          obtain ⟨t, z, j, s, hz, hsj, hen, rfl, hn, hd⟩ := next_ok hfo hi hym
          have b1 := nextP_den p hs c hc ⟨t, j, 0⟩
          rw [hn] at b1
          obtain ⟨hsl, hsz⟩ := few_set hf hz hsj
          have b2 := writes_den s (by omega)
          have b3 := reads_den s (by omega)
          have hic := is_iff.1 hi
          have hid := is_iff.1 hd
          have hm : c.mem.length ≤ 40 := by
            have := (limits_points (formed_limits hfo).1).1
            rw [hic.lm]; omega
          have hrl := readsM_len s
          have b4 : ∀ n : Int, _ := fun n => hasI_den (readsM s) n (by omega)
          obtain ⟨r, h', n', hden, hown, _, _⟩ := copy_den c.mem (by omega) (fun _ => none) 0
          simp -dsimp -implicitDefEqProofs only [go_sem, seval, h0', wp, k0, hy, hz, hsj, b2, b3]
          refine freK_of (es := c.mem.map fun n => [ti n]) rfl rfl ⟨r, h', n', hden, hown⟩ ?_
          clear hden hown
          intro v hpp hown _ _
          have v1 := hown.valOf
          have v2 := hown.cells
          simp only [V.cells] at v2
          simp -dsimp -implicitDefEqProofs only [go_sem, seval, v1, v2]
          refine loopYH 10384593716465192347253678071218176 (min c.mem.length other.length) (fun i f h x => (f 17).v = vi i ∧ OwnB h x v 1 (rowsI (chM p (readsM s) other c.mem i))) rfl ⟨by simp -dsimp -implicitDefEqProofs only [go_sem, seval], by simp -dsimp -implicitDefEqProofs only [go_sem, seval]; exact hown.le (by omega)⟩ ?_
          clear hown
          rintro i f u H x bs hi17 ⟨h17, hown⟩
          have hw := wrapS i (by omega)
          have hcl := chM_len p (readsM s) other c.mem i
          have hrs := hown.rowsS
          have hls : lenS H v = some c.mem.length := by
            rcases hown with ⟨rfl, he⟩ | ⟨k, rfl, hk, hh⟩
            · have := congrArg List.length he
              rw [rowsI_len, hcl] at this
              rw [this]; rfl
            · rw [rowsI_len, hcl]; simp [lenS, hh]
          by_cases hlt : i < min c.mem.length other.length
          · have l1 : (i : Int) < (c.mem.length : Int) := by omega
            have l2 : (i : Int) < (other.length : Int) := by omega
            have l3 : i < c.mem.length := by omega
            obtain ⟨ov, hov, hom⟩ := get_of (show i < other.length by omega)
            obtain ⟨cy, hcy, hcm⟩ := get_of (show i < p.cells.length by rw [← hic.lm]; omega)
            have hb := b4 i
            by_cases hrd : (i : Int) ∈ readsM s
            · rw [decide_eq_true hrd] at hb
              simp -dsimp -implicitDefEqProofs only [go_sem, seval, h17, v1, v2, hls, l1, l2, hb, hlb]
              refine ⟨hlt, by simp -dsimp -implicitDefEqProofs only [go_sem, seval, hw], ?_⟩
              have hch : chM p (readsM s) other c.mem (i + 1) = chM p (readsM s) other c.mem i := by rw [chM, if_pos hrd]
              simp -dsimp -implicitDefEqProofs only [go_sem, seval, hch]
              exact hown.le (by omega)
            · rw [decide_eq_false hrd] at hb
              have hcw := (formed_cell hfo hcm).2.1
              have hpw := power_den cy.w (by omega)
              have how : IntKind.i64.wrap ov = ov := by have := hot ov hom; exact wrap64 (by omega)
              have h2p := pow2_pos cy.w.toNat
              have h2n : ¬ (2 : Int) ^ cy.w.toNat = 0 := by omega
              have hch : chM p (readsM s) other c.mem (i + 1) = (chM p (readsM s) other c.mem i).set i (ov.tmod (2 ^ cy.w.toNat)) := by
                rw [chM, if_neg hrd]
                simp [List.getD_eq_getElem?_getD, hov, hcy]
              rcases hown with ⟨_, he⟩ | ⟨k, rfl, hk, hh⟩
              · exfalso
                have := congrArg List.length he
                rw [rowsI_len, hcl] at this
                simp only [List.length_nil] at this; omega
              · have hgt := rowsI_get (l := chM p (readsM s) other c.mem i) (i := i) (by omega)
                have hst := rowsI_set (chM p (readsM s) other c.mem i) i (ov.tmod (2 ^ cy.w.toNat))
                rw [← hch] at hst
                have hil : i < (rowsI (chM p (readsM s) other c.mem i)).length := by rw [rowsI_len, hcl]; omega
                have hrl2 : (rowsI (chM p (readsM s) other c.mem i)).length = c.mem.length := by rw [rowsI_len, hcl]
                simp -dsimp -implicitDefEqProofs only [go_sem, seval, h17, hls, l1, l2, l3, hb, hlb, hov, hcy, hpw, how, h2n, hh, hgt, hrl2]
                refine ⟨hlt, by simp -dsimp -implicitDefEqProofs only [go_sem, seval, hw], ?_⟩
                refine .inr ⟨k, ?_, ?_, ?_⟩
                · rw [rowsI_len, rowsI_len, chM_len, chM_len]
                · simp -dsimp -implicitDefEqProofs only [go_sem, seval]; omega
                · simp -dsimp -implicitDefEqProofs only [go_sem, seval, hst]
          · have hiN : i = min c.mem.length other.length := by omega
            have hag : Agree (readsM s) (chM p (readsM s) other c.mem i) c.mem := fun n hn => chM_rd p (readsM s) other c.mem hn i
            have hmi := ch_is hi (rd := readsM s) hot i
            generalize chM p (readsM s) other c.mem i = m at *
            have hcs : (⟨m, c.at_, c.buf⟩ : Config).sane := ⟨by simpa using hcl ▸ hc.mem, hc.at_, hc.buf⟩
            have n2 := ch_next hfo hi hz hsj hen hmi hag
            have b5 := nextP_den p hs ⟨m, c.at_, c.buf⟩ hcs ⟨t, j, 0⟩
            rw [n2] at b5
            have hmic := is_iff.1 hmi
            have hd2 := is_iff.1 (exec_is hfo hmi hz hsj)
            have e1 : (((execS p c t s).mem.length : Nat) : Int) = c.mem.length := by rw [hid.lm, hic.lm]
            have e2 : (((execS p ⟨m, c.at_, c.buf⟩ t s).mem.length : Nat) : Int) = c.mem.length := by rw [hd2.lm, hic.lm]
            have e3 : (execS p ⟨m, c.at_, c.buf⟩ t s).at_ = (execS p c t s).at_ := rfl
            have b6 := sameInts_den (execS p c t s).at_ (execS p c t s).at_ (by have := (limits_points (formed_limits hfo).1).1; rw [hid.la]; omega)
            rw [decide_eq_true rfl] at b6
            have ht0 := own_reify hown (ints_norm _)
            have hgo : ∀ Q : Prop, ((i : Int) < (c.mem.length : Int) → ¬ (i : Int) < (other.length : Int) → Q) → (¬ (i : Int) < (c.mem.length : Int) → Q) → Q := fun Q q1 q2 => by
              by_cases h : (i : Int) < (c.mem.length : Int)
              · exact q1 h (by omega)
              · exact q2 h
            refine hgo _ (fun l1 l2 => ?_) (fun l1 => ?_)
            · simp -dsimp -implicitDefEqProofs only [go_sem, seval, h17, v1, v2, hls, l1, l2, hlb, b1, ht0]
              refine denS_of b5 (denS_own hown rfl rfl fun h2 => ?_)
              simp -dsimp -implicitDefEqProofs only [go_sem, seval, e1, e2, e3, b6]
              refine loopYH 803469022128764386952315594711479458844743355381568455573760 (writesM s).length (fun k f h x => (f 22).v = vi k) rfl (by simp -dsimp -implicitDefEqProofs only [go_sem, seval]) ?_
              rintro k f2 u2 H2 x2 bs2 hk22 h22
              have hwl := writesM_len s
              have hwk := wrapS k (by omega)
              simp -dsimp -implicitDefEqProofs only [go_sem, seval, h22]
              refine csplit (fun h => ?_) (fun h => ?_) <;> (try rw [h]) <;> (try simp only [bools] at h) <;> (try simp -dsimp -implicitDefEqProofs only [go_sem, seval, h22])
              · obtain ⟨n, hnk, hnm⟩ := get_of ‹k < (writesM s).length›
                obtain ⟨n0, n1, vv, hv1, hv2⟩ := ch_write (formed_set hfo hz hsj) hic.lm hmic.lm hag hnm
                have n2 : ¬ n < 0 := by omega
                have n3 : ¬ n ≥ (((execS p c t s).mem.length : Nat) : Int) := by rw [hid.lm]; omega
                have hv1' : (execS p c t s).mem[n.toNat]? = some vv := hv1
                have hv2' : (execS p ⟨m, c.at_, c.buf⟩ t s).mem[n.toNat]? = some vv := hv2
                simp -dsimp -implicitDefEqProofs only [go_sem, seval, h22, hnk, n0, n2, n3, hv1', hv2']
                exact ⟨by omega, by simp -dsimp -implicitDefEqProofs only [go_sem, seval, hwk]⟩
            · simp -dsimp -implicitDefEqProofs only [go_sem, seval, h17, v1, v2, hls, l1, hlb, b1, ht0]
              refine denS_of b5 (denS_own hown rfl rfl fun h2 => ?_)
              simp -dsimp -implicitDefEqProofs only [go_sem, seval, e1, e2, e3, b6]
              refine loopYH 803469022128764386952315594711479458844743355381568455573760 (writesM s).length (fun k f h x => (f 22).v = vi k) rfl (by simp -dsimp -implicitDefEqProofs only [go_sem, seval]) ?_
              rintro k f2 u2 H2 x2 bs2 hk22 h22
              have hwl := writesM_len s
              have hwk := wrapS k (by omega)
              simp -dsimp -implicitDefEqProofs only [go_sem, seval, h22]
              refine csplit (fun h => ?_) (fun h => ?_) <;> (try rw [h]) <;> (try simp only [bools] at h) <;> (try simp -dsimp -implicitDefEqProofs only [go_sem, seval, h22])
              · obtain ⟨n, hnk, hnm⟩ := get_of ‹k < (writesM s).length›
                obtain ⟨n0, n1, vv, hv1, hv2⟩ := ch_write (formed_set hfo hz hsj) hic.lm hmic.lm hag hnm
                have n2 : ¬ n < 0 := by omega
                have n3 : ¬ n ≥ (((execS p c t s).mem.length : Nat) : Int) := by rw [hid.lm]; omega
                have hv1' : (execS p c t s).mem[n.toNat]? = some vv := hv1
                have hv2' : (execS p ⟨m, c.at_, c.buf⟩ t s).mem[n.toNat]? = some vv := hv2
                simp -dsimp -implicitDefEqProofs only [go_sem, seval, h22, hnk, n0, n2, n3, hv1', hv2']
                exact ⟨by omega, by simp -dsimp -implicitDefEqProofs only [go_sem, seval, hwk]⟩
      · have hol' : decide ((other.length : Int) > 40) = true := by simp; omega
        simp -dsimp -implicitDefEqProofs only [go_sem, seval, hlen', hol']
    · have hlen' : decide ((picks.length : Int) > 40) = true := by simp; omega
      simp -dsimp -implicitDefEqProofs only [go_sem, seval, hlen']
end Rg
end
