/- Part of the proof of the laws of the package relyguardlaw11: an abstract machine for the program's functions, what they compute, and that the machine is the program's. No condition. (H11i H11j H11k H11l H11m H11n H11o H11p H11q H11r H11s) -/
import Derived.Test.YtnfmmdkonagnaaaGreatDoorPartAX
set_option linter.unusedSimpArgs false
set_option linter.unusedVariables false
section
namespace Rg
open Go
def hasM (l : List Choice) (x : Choice) : Bool := l.any fun y => decide (y = x)
theorem choice_eq (a b : Choice) : (decide (a.thread = b.thread) && (decide (a.step = b.step) && decide (a.cell = b.cell))) = decide (a = b) := by
  cases a; cases b
  simp only [Choice.mk.injEq]
  simp
theorem has_den (l : List Choice) (x : Choice) (hl : l.length < 2 ^ 40) : Den Γ G 20 [.t (.sl (l.map Choice.enc)), (.agg [.t (ti (x).thread), .t (ti (x).step), .t (ti (x).cell)])] = some (vb (hasM l x)) := by
  (refine den_ofY Γ20 rfl ?_; dsimp only [f20])
  simp -dsimp -implicitDefEqProofs only [go_sem, seval]
  refine loopY 262128 l.length (fun i f => (f 5).v = vi i ∧ hasM l x = (l.drop i).any fun y => decide (y = x)) rfl rfl ⟨by simp -dsimp -implicitDefEqProofs only [go_sem, seval], rfl⟩ ?_
  rintro i f u kk bb hi ⟨h5, hany⟩
  have hw := wrapS i (by omega)
  simp -dsimp -implicitDefEqProofs only [go_sem, seval, h5]
  refine csplit (fun h => ?_) (fun h => ?_) <;> (try rw [h]) <;> (try simp only [bools] at h) <;> (try simp -dsimp -implicitDefEqProofs only [go_sem, seval, h5])
  · obtain ⟨y, hy, _⟩ := get_of ‹i < l.length›
    have he := choice_eq y x
    simp -dsimp -implicitDefEqProofs only [go_sem, seval, h5, hy, he, Bool.bne_false]
    refine csplit (fun h => ?_) (fun h => ?_) <;> (try rw [h]) <;> (try simp only [bools] at h) <;> (try simp -dsimp -implicitDefEqProofs only [go_sem, seval, h5])
    · rw [hany, any_stop hy (by simpa using h)]
    · refine ⟨by omega, by simp -dsimp -implicitDefEqProofs only [go_sem, seval, hw], ?_⟩
      rw [hany, any_step hy (by simpa using h)]
  · have : i = l.length := by omega
    subst this
    rw [hany, any_end]
def writeM (mem view : List Int) (set : List Assign) : List Int := set.foldl (fun m a => m.set a.cell.toNat (a.to.eval view view)) mem
theorem write_len (view : List Int) : ∀ (set : List Assign) (mem : List Int), (writeM mem view set).length = mem.length
  | [], mem => rfl
  | a :: r, mem => by
    have := write_len view r (mem.set a.cell.toNat (a.to.eval view view))
    simpa [writeM] using this
theorem write_take {mem view : List Int} {set : List Assign} {i : Nat} {a : Assign} (h : set[i]? = some a) : writeM mem view (set.take (i + 1)) = (writeM mem view (set.take i)).set a.cell.toNat (a.to.eval view view) := by
  unfold writeM
  rw [take_succ_of h, List.foldl_append]; rfl
theorem writeR_den (mem view : List Int) (set : List Assign) (hm : mem.length < 2 ^ 31) (hs : set.length < 2 ^ 40) (hin : ∀ a ∈ set, 0 ≤ a.cell ∧ a.cell < mem.length) :
    Den Γ G 66 [.t (ints mem), .t (ints view), .t (.sl (set.map Assign.enc))] = some (.t (ints (writeM mem view set))) := by
  (refine den_ofY Γ66 rfl ?_; dsimp only [f66])
  simp -dsimp -implicitDefEqProofs only [go_sem, seval]
  have hcp := copy_den mem hm (fun _ => none) 0
  obtain ⟨r, h', n', hden, hown, _, _⟩ := hcp
  refine freK_of (es := mem.map fun n => [ti n]) rfl rfl ⟨r, h', n', hden, hown⟩ ?_
  clear hden hown
  intro v hp hown _ _
  have v1 := hown.valOf
  simp -dsimp -implicitDefEqProofs only [go_sem, seval, v1]
  refine loopYH 4294965504 set.length (fun i f h x => (f 8).v = vi i ∧ OwnB h x v 1 (rowsI (writeM mem view (set.take i)))) rfl ⟨by simp -dsimp -implicitDefEqProofs only [go_sem, seval], by simp -dsimp -implicitDefEqProofs only [go_sem, seval]; exact hown.le (by omega)⟩ ?_
  clear hown
  rintro i f u H x bs hi ⟨h8, hown⟩
  have hw := wrapS i (by omega)
  simp -dsimp -implicitDefEqProofs only [go_sem, seval, h8]
  refine csplit (fun h => ?_) (fun h => ?_) <;> (try rw [h]) <;> (try simp only [bools] at h) <;> (try simp -dsimp -implicitDefEqProofs only [go_sem, seval, h8])
  · obtain ⟨a, ha, ham⟩ := get_of ‹i < set.length›
    obtain ⟨c0, c1⟩ := hin a ham
    have hev := evalR_den a.to view view
    have hlen : (writeM mem view (set.take i)).length = mem.length := write_len view _ mem
    rcases hown with ⟨_, he⟩ | ⟨k, rfl, hk, hh⟩
    · exfalso
      have : (rowsI (writeM mem view (set.take i))).length = 0 := by rw [he]; rfl
      rw [rowsI_len] at this; omega
    · have hlt : a.cell < (((rowsI (writeM mem view (set.take i))).length : Nat) : Int) := by rw [rowsI_len]; omega
      have hgt := rowsI_get (l := writeM mem view (set.take i)) (i := a.cell.toNat) (by omega)
      have hst := rowsI_set (writeM mem view (set.take i)) a.cell.toNat (a.to.eval view view)
      rw [← write_take ha] at hst
      simp -dsimp -implicitDefEqProofs only [go_sem, seval, h8, ha, hev, c0, hlt, hh, hgt]
      refine ⟨by omega, by simp -dsimp -implicitDefEqProofs only [go_sem, seval, hw], .inr ⟨k, ?_, by simp -dsimp -implicitDefEqProofs only [go_sem, seval]; omega, ?_⟩⟩
      · rw [rowsI_len, rowsI_len, hlen, write_len]
      · simp -dsimp -implicitDefEqProofs only [go_sem, seval, hst]
  · have : i = set.length := by omega
    subst this
    rw [List.take_length] at hown
    have hre := hown.reify (ints_norm _)
    have v5 := hown.resVal
    simp only [Rg.resVal] at v5
    simp -dsimp -implicitDefEqProofs only [go_sem, seval, v1, v5]
    exact hre
end Rg
end
section
namespace Rg
open Go
theorem choicesT_mem {p : Prog} {c : Config} {t : Nat} {x : Thread} {n : Nat} {y : Choice} : y ∈ choicesT p c t x n ↔ ∃ i s, i < n ∧ x.steps[i]? = some s ∧ enabledM p c t s = true ∧ y = ⟨t, i, 0⟩ := by
  unfold choicesT
  rw [List.mem_filterMap]
  constructor
  · rintro ⟨⟨s, i⟩, hm, h⟩
    rw [List.mem_zipIdx_iff_getElem?] at hm
    simp only at hm
    rw [List.getElem?_take] at hm
    split at hm
    · rename_i hi
      split at h
      · rename_i he
        simp only [Option.some.injEq] at h
        exact ⟨i, s, hi, hm, he, h.symm⟩
      · simp at h
    · simp at hm
  · rintro ⟨i, s, hi, hs, he, rfl⟩
    refine ⟨(s, i), ?_, by simp [he]⟩
    rw [List.mem_zipIdx_iff_getElem?]
    simp only
    rw [List.getElem?_take, if_pos hi]; exact hs
theorem choices_mem {p : Prog} {c : Config} {y : Choice} : y ∈ choicesM p c ↔ ∃ (t : Nat) (x : Thread) (i : Nat) (s : Step), p.threads[t]? = some x ∧ x.steps[i]? = some s ∧ enabledM p c t s = true ∧ y = ⟨t, i, 0⟩ := by
  unfold choicesM choicesN
  rw [List.mem_flatMap]
  constructor
  · rintro ⟨⟨x, t⟩, hm, h⟩
    rw [List.mem_zipIdx_iff_getElem?, List.take_length] at hm
    obtain ⟨i, s, _, hs, he, rfl⟩ := choicesT_mem.1 h
    exact ⟨t, x, i, s, hm, hs, he, rfl⟩
  · rintro ⟨t, x, i, s, hx, hs, he, rfl⟩
    refine ⟨(x, t), ?_, choicesT_mem.2 ⟨i, s, (List.getElem?_eq_some_iff.1 hs).1, hs, he, rfl⟩⟩
    rw [List.mem_zipIdx_iff_getElem?, List.take_length]
    exact hx
def execS (p : Prog) (c : Config) (t : Nat) (s : Step) : Config :=
  ⟨writeM c.mem c.mem s.set, if s.kind = 6 then (c.at_.set t s.to).set s.target.toNat 0 else c.at_.set t s.to, p.threads.map fun _ => []⟩
def stepAt (p : Prog) (x : Choice) : Option Step := (p.threads[x.thread.toNat]?).bind fun t => t.steps[x.step.toNat]?
def zeroC : Config := ⟨[], [], []⟩
def execM (p : Prog) (c : Config) (x : Choice) : Config := match stepAt p x with
  | some s => execS p c x.thread.toNat s
  | none => zeroC
def nextM (p : Prog) (c : Config) (x : Choice) : Config × Int :=
  if formedM p && isM p c then (if hasM (choicesM p c) x then (execM p c x, 0) else (zeroC, 110)) else (zeroC, 1)
theorem hasM_iff (l : List Choice) (x : Choice) : hasM l x = true ↔ x ∈ l := by
  unfold hasM
  rw [List.any_eq_true]
  constructor
  · rintro ⟨y, hy, h⟩; simp at h; exact h ▸ hy
  · intro h; exact ⟨x, h, by simp⟩
theorem take_all {α : Type} {l : List α} {n : Nat} (h : n = l.length) : l.take n = l := List.take_of_length_le (by omega)
theorem drop_none {α : Type} {l : List α} {n : Nat} (h : n = l.length) : l.drop n = [] := List.drop_of_length_le (by omega)
theorem executeP_den (p : Prog) (hf : formedM p = true) (c : Config) (hc : isM p c = true) (t : Nat) (x : Thread) (hx : p.threads[t]? = some x) (i : Nat) (s : Step) (hs : x.steps[i]? = some s) (y : Choice) (hy : y = ⟨t, i, 0⟩) (hset : s.set.length < 2 ^ 40) :
    Den Γ G 45 [(.agg [.t (.sl ((p).cells.map (Cell.enc))), .t (.sl ((p).modules.map (Contract.enc))), .t (.sl ((p).locks.map (Lock.enc))), .t (.sl ((p).threads.map (Thread.enc)))]), (.agg [.t (ints (c).mem), .t (ints (c).at_), .t (.sl ((c).buf.map (fun b => [.sl (b.map Entry.enc)])))]), (.agg [.t (ti (y).thread), .t (ti (y).step), .t (ti (y).cell)])] = some (.agg [.t (ints (execS p c t s).mem), .t (ints (execS p c t s).at_), .t (.sl ((execS p c t s).buf.map (fun b => [.sl (b.map Entry.enc)])))]) := by
  subst hy
  obtain ⟨l1, l2, l3⟩ := is_len hc
  obtain ⟨⟨m1, m2, m3, m4⟩, _⟩ := limits_points (formed_limits hf).1
  have hok := formed_step hf hx hs
  have htl : t < p.threads.length := (List.getElem?_eq_some_iff.1 hx).1
  have e1 : (c.mem.length : Int) ≤ 4294967296 := by omega
  have e2 : (c.at_.length : Int) ≤ 4294967296 := by omega
  have e3 : (c.buf.length : Int) ≤ 4294967296 := by omega
  (refine den_ofY Γ45 rfl ?_; dsimp only [f45])
  have r1 := rowsI_all c.mem
  have r2 := rowsI_all c.at_
  have r3 : List.take c.mem.length (rowsI c.mem) = rowsI c.mem := take_all (rowsI_len _).symm
  have r4 : List.take c.at_.length (rowsI c.at_) = rowsI c.at_ := take_all (rowsI_len _).symm
  have r5 : ∀ (n : Nat) (v : List V), List.drop n (List.replicate n v) = [] := fun n v => drop_none (by simp)
  have hcm : ∀ a ∈ s.set, 0 ≤ a.cell ∧ a.cell < c.mem.length := fun a ha => by
    have := (hok.rng.2 a ha).1
    simp only [inR, decide_eq_true_eq] at this; omega
  simp -dsimp -implicitDefEqProofs only [go_sem, seval, e1, e2, e3, Int.le_refl, rowsI_eq, r1, r2, r3, r4, r5, rowsI_len, List.length_replicate, Nat.le_refl, List.append_nil, Nat.min_self, hx, hs]
  refine loopYH 36893206672442393600 s.set.length (fun j f h z => (f 48).v = vi j ∧ h 7 = some (.rows 1 (rowsI (writeM c.mem c.mem (s.set.take j))) false) ∧ h 11 = some (.rows 1 (rowsI c.at_) false) ∧ h 15 = some (.rows 1 (List.replicate c.buf.length [.t .nils]) false)) rfl
    ⟨by simp -dsimp -implicitDefEqProofs only [go_sem, seval], by simp -dsimp -implicitDefEqProofs only [go_sem, seval]; rfl, by simp -dsimp -implicitDefEqProofs only [go_sem, seval], by simp -dsimp -implicitDefEqProofs only [go_sem, seval]⟩ ?_
  rintro j f u H z bs hj ⟨h48, g7, g11, g15⟩
  have hw := wrapS j (by omega)
  simp -dsimp -implicitDefEqProofs only [go_sem, seval, h48]
  refine csplit (fun h => ?_) (fun h => ?_) <;> (try rw [h]) <;> (try simp only [bools] at h) <;> (try simp -dsimp -implicitDefEqProofs only [go_sem, seval, h48])
  · obtain ⟨a, ha, ham⟩ := get_of ‹j < s.set.length›
    obtain ⟨c0, c1⟩ := hcm a ham
    have hev := evalP_den a.to c.mem c.mem
    have hlen : (writeM c.mem c.mem (s.set.take j)).length = c.mem.length := write_len c.mem _ c.mem
    have hgt := rowsI_get (l := writeM c.mem c.mem (s.set.take j)) (i := a.cell.toNat) (by omega)
    have hst := rowsI_set (writeM c.mem c.mem (s.set.take j)) a.cell.toNat (a.to.eval c.mem c.mem)
    rw [← write_take ha] at hst
    simp -dsimp -implicitDefEqProofs only [go_sem, seval, h48, ha, hev, c0, c1, g7, hgt]
    refine ⟨by omega, by simp -dsimp -implicitDefEqProofs only [go_sem, seval, hw], by simp -dsimp -implicitDefEqProofs only [go_sem, seval, hst], by simp -dsimp -implicitDefEqProofs only [go_sem, seval, g11], by simp -dsimp -implicitDefEqProofs only [go_sem, seval, g15]⟩
  · have : j = s.set.length := by omega
    subst this
    rw [List.take_length] at g7
    have hgt := rowsI_get (l := c.at_) (i := t) (by omega)
    have hst := rowsI_set c.at_ t s.to
    have hlt : (t : Int) < (c.at_.length : Int) := by omega
    have t0 : (0 : Int) ≤ (t : Int) := by omega
    have hlt2 : t < c.at_.length := by omega
    have hb1 : List.take p.threads.length (List.replicate p.threads.length [V.t T.nils]) = List.replicate p.threads.length [V.t T.nils] := take_all (by simp)
    have hb2 : c.buf.length = p.threads.length := l3
    have hb3 := fun h => mapM_nils h p.threads.length
    have hm1 : List.take c.mem.length (rowsI (writeM c.mem c.mem s.set)) = rowsI (writeM c.mem c.mem s.set) := take_all (by rw [rowsI_len, write_len])
    have hm2 : (rowsI (writeM c.mem c.mem s.set)).length = c.mem.length := by rw [rowsI_len, write_len]
    simp -dsimp -implicitDefEqProofs only [go_sem, seval, g11, hgt, hlt, hlt2, hst, rowsI_len, List.length_set]
    by_cases hk : s.kind = 6
    · obtain ⟨hr, _⟩ := hok.tgt (.inl hk)
      simp only [inR, decide_eq_true_eq] at hr
      have q1 : s.target < (c.at_.length : Int) := by omega
      have q2 := hr.1
      have hgt2 := rowsI_get (l := c.at_.set t s.to) (i := s.target.toNat) (by simp; omega)
      have hst2 := rowsI_set (c.at_.set t s.to) s.target.toNat 0
      have ha1 : List.take c.at_.length (rowsI ((c.at_.set t s.to).set s.target.toNat 0)) = rowsI ((c.at_.set t s.to).set s.target.toNat 0) := take_all (by rw [rowsI_len]; simp)
      simp -dsimp -implicitDefEqProofs only [go_sem, seval, hk, q1, q2, hgt2, hst2, g7, g15, hb1, hb3, hm1, hm2, ha1, rowsI_len, List.length_set, List.length_replicate, Nat.le_refl, rowsI_toT, hb2]
      simp [execS, hk, replicate_map]
    · have ha1 : List.take c.at_.length (rowsI (c.at_.set t s.to)) = rowsI (c.at_.set t s.to) := take_all (by rw [rowsI_len]; simp)
      simp -dsimp -implicitDefEqProofs only [go_sem, seval, hk, g7, g15, hb1, hb3, hm1, hm2, ha1, rowsI_len, List.length_set, List.length_replicate, Nat.le_refl, rowsI_toT, hb2]
      simp [execS, hk, replicate_map]
theorem nextP_den (p : Prog) (hs : p.sane) (c : Config) (hcs : c.sane) (x : Choice) : Den Γ G 18 [(.agg [.t (.sl ((p).cells.map (Cell.enc))), .t (.sl ((p).modules.map (Contract.enc))), .t (.sl ((p).locks.map (Lock.enc))), .t (.sl ((p).threads.map (Thread.enc)))]), (.agg [.t (ints (c).mem), .t (ints (c).at_), .t (.sl ((c).buf.map (fun b => [.sl (b.map Entry.enc)])))]), (.agg [.t (ti (x).thread), .t (ti (x).step), .t (ti (x).cell)])] = some (.tup [(.agg [.t (ints ((nextM p c x).1).mem), .t (ints ((nextM p c x).1).at_), .t (.sl (((nextM p c x).1).buf.map (fun b => [.sl (b.map Entry.enc)])))]), vi (nextM p c x).2]) := by
  (refine den_ofY Γ18 rfl ?_; dsimp only [f18])
  have h1 := machineValid_den p hs
  simp -dsimp -implicitDefEqProofs only [go_sem, seval, h1]
  cases hf : formedM p
  · simp -dsimp -implicitDefEqProofs only [go_sem, seval]
    simp [nextM, hf, zeroC]
  · have h2 := fitsP_den p hf c hcs
    simp -dsimp -implicitDefEqProofs only [go_sem, seval, h2]
    cases hc : isM p c
    · simp -dsimp -implicitDefEqProofs only [go_sem, seval]
      simp [nextM, hf, hc, zeroC]
    · have h3 := choicesP_den p hf c hc
      have hlen : (choicesM p c).length < 2 ^ 40 := by
        have := choicesN_len hf c p.threads.length
        have := (limits_points (formed_limits hf).1).1
        unfold choicesM; omega
      have hN : nextM p c x = if hasM (choicesM p c) x then (execM p c x, 0) else (zeroC, 110) := by simp [nextM, hf, hc]
      simp -dsimp -implicitDefEqProofs only [go_sem, seval, h3]
      refine loopY 68702700224 (choicesM p c).length (fun i f => (f 24).v = vi i ∧ (f 6).v = .lb ∧ (f 6).box = some [.t .nils, .t .nils, .t .nils] ∧ hasM (choicesM p c) x = ((choicesM p c).drop i).any fun y => decide (y = x)) rfl rfl ⟨by simp -dsimp -implicitDefEqProofs only [go_sem, seval], by simp -dsimp -implicitDefEqProofs only [go_sem, seval], by simp -dsimp -implicitDefEqProofs only [go_sem, seval], rfl⟩ ?_
      rintro i f u kk bb hi ⟨h24, b1, b2, hany⟩
      have hw := wrapS i (by omega)
      simp -dsimp -implicitDefEqProofs only [go_sem, seval, h24]
      refine csplit (fun h => ?_) (fun h => ?_) <;> (try rw [h]) <;> (try simp only [bools] at h) <;> (try simp -dsimp -implicitDefEqProofs only [go_sem, seval, h24])
      · obtain ⟨y, hy, hym⟩ := get_of ‹i < (choicesM p c).length›
        have he := choice_eq x y
        simp -dsimp -implicitDefEqProofs only [go_sem, seval, h24, hy, he, Bool.bne_false]
        refine csplit (fun h => ?_) (fun h => ?_) <;> (try rw [h]) <;> (try simp only [bools] at h) <;> (try simp -dsimp -implicitDefEqProofs only [go_sem, seval, h24])
        · have hxy : x = y := by simpa using h
          rw [any_stop hy (by simpa using hxy.symm)] at hany
          obtain ⟨t, tx, j, s, ht, hsj, _, hyy⟩ := choices_mem.1 hym
          have htm := List.mem_of_getElem? ht
          have hex := executeP_den p hf c hc t tx ht j s hsj x (hxy.trans hyy) (hs.sets tx htm s (List.mem_of_getElem? hsj))
          have hE : execM p c x = execS p c t s := by
            rw [hxy, hyy]
            simp [execM, stepAt, ht, hsj]
          rw [hany, if_pos rfl, hE] at hN
          rw [hN]
          simp -dsimp -implicitDefEqProofs only [go_sem, seval, hex, b1, b2]
        · refine ⟨by omega, by simp -dsimp -implicitDefEqProofs only [go_sem, seval, hw], by simp -dsimp -implicitDefEqProofs only [go_sem, seval, b1], by simp -dsimp -implicitDefEqProofs only [go_sem, seval, b2], ?_⟩
          rw [hany, any_step hy (by simpa [eq_comm] using h)]
      · have : i = (choicesM p c).length := by omega
        subst this
        rw [any_end] at hany
        rw [hany] at hN
        rw [hN]
        simp -dsimp -implicitDefEqProofs only [go_sem, seval, b1, b2]
        simp [zeroC]
end Rg
end
section
namespace Rg
open Go
theorem nextR_den (p : Prog) (hs : p.sane) (c : Config) (hcs : c.sane) (x : Choice) : Den Γ G 42 [(.agg [.t (.sl ((p).cells.map (Cell.enc))), .t (.sl ((p).modules.map (Contract.enc))), .t (.sl ((p).locks.map (Lock.enc))), .t (.sl ((p).threads.map (Thread.enc)))]), (.agg [.t (ints (c).mem), .t (ints (c).at_), .t (.sl ((c).buf.map (fun b => [.sl (b.map Entry.enc)])))]), (.agg [.t (ti (x).thread), .t (ti (x).step), .t (ti (x).cell)])] = some (.tup [(.agg [.t (ints ((nextM p c x).1).mem), .t (ints ((nextM p c x).1).at_), .t (.sl (((nextM p c x).1).buf.map (fun b => [.sl (b.map Entry.enc)])))]), vi (nextM p c x).2]) := by
  (refine den_ofY Γ42 rfl ?_; dsimp only [f42])
  have h1 := formedR_den p hs
  simp -dsimp -implicitDefEqProofs only [go_sem, seval, h1]
  cases hf : formedM p
  · simp -dsimp -implicitDefEqProofs only [go_sem, seval]
    simp [nextM, hf, zeroC]
  · have h2 := isR_den p hf c hcs
    simp -dsimp -implicitDefEqProofs only [go_sem, seval, h2]
    cases hc : isM p c
    · simp -dsimp -implicitDefEqProofs only [go_sem, seval]
      simp [nextM, hf, hc, zeroC]
    · have h3 := enabledRL_den p hs c hcs
      have hE : enabledL p c = choicesM p c := by simp [enabledL, hf, hc]
      rw [hE] at h3
      have hlen : (choicesM p c).length < 2 ^ 40 := by
        have := choicesN_len hf c p.threads.length
        have := (limits_points (formed_limits hf).1).1
        unfold choicesM; omega
      have h4 := has_den (choicesM p c) x hlen
      have hN : nextM p c x = if hasM (choicesM p c) x then (execM p c x, 0) else (zeroC, 110) := by simp [nextM, hf, hc]
      simp -dsimp -implicitDefEqProofs only [go_sem, seval, h3, h4]
      cases hh : hasM (choicesM p c) x
      · rw [hh] at hN
        rw [hN]
        simp -dsimp -implicitDefEqProofs only [go_sem, seval]
        simp [zeroC]
      · rw [hh, if_pos rfl] at hN
        obtain ⟨t, tx, j, s, ht, hsj, _, hyy⟩ := choices_mem.1 ((hasM_iff _ _).1 hh)
        subst hyy
        have htm := List.mem_of_getElem? ht
        have hsl := hs.sets tx htm s (List.mem_of_getElem? hsj)
        obtain ⟨l1, l2, l3⟩ := is_len hc
        obtain ⟨⟨m1, m2, m3, m4⟩, _⟩ := limits_points (formed_limits hf).1
        have hok := formed_step hf ht hsj
        have htl : t < p.threads.length := (List.getElem?_eq_some_iff.1 ht).1
        have hcm : ∀ a ∈ s.set, 0 ≤ a.cell ∧ a.cell < c.mem.length := fun a ha => by
          have := (hok.rng.2 a ha).1
          simp only [inR, decide_eq_true_eq] at this; omega
        have hwr := writeR_den c.mem c.mem s.set (by omega) hsl hcm
        have hE2 : execM p c ⟨t, j, 0⟩ = execS p c t s := by simp [execM, stepAt, ht, hsj]
        rw [hE2] at hN
        rw [hN]
        have e3 : (p.threads.length : Int) ≤ 4294967296 := by omega
        simp -dsimp -implicitDefEqProofs only [go_sem, seval, ht, hsj, hwr]
        obtain ⟨r, h', n', hden, hown, _, _⟩ := copy_den c.at_ (by omega) (fun _ => none) 0
        refine freK_of (es := c.at_.map fun n => [ti n]) rfl rfl ⟨r, h', n', hden, hown⟩ ?_
        clear hden hown
        intro v hp hown hkeep hoff
        rcases hown with ⟨_, he⟩ | ⟨k, rfl, hk, hh⟩
        · exfalso
          have : ((c.at_.map fun n => [ti n]).map (·.map V.t)).length = 0 := by rw [he]; rfl
          simp at this; rw [this] at l2; simp at l2; omega
        have hkk : ¬ k = 46 := by omega
        have hkk' : ¬ 46 = k := by omega
        have hlr : ((c.at_.map fun n => [ti n]).map (fun x => x.map V.t)).length = c.at_.length := by simp
        rw [rowsI_eq] at hh
        have hgt := rowsI_get (l := c.at_) (i := t) (by omega)
        have hst := rowsI_set c.at_ t s.to
        have hlt : (t : Int) < (c.at_.length : Int) := by omega
        have hlt2 : t < c.at_.length := by omega
        have hb1 : List.take p.threads.length (List.replicate p.threads.length [V.t T.nils]) = List.replicate p.threads.length [V.t T.nils] := take_all (by simp)
        have hb3 := fun h => mapM_nils h p.threads.length
        simp -dsimp -implicitDefEqProofs only [go_sem, seval, e3, Int.le_refl, hkk, hkk', hh, hlr, hgt, hlt, hlt2, hst, rowsI_len, List.length_set]
        by_cases hkd : s.kind = 6
        · obtain ⟨hr, _⟩ := hok.tgt (.inl hkd)
          simp only [inR, decide_eq_true_eq] at hr
          have q1 : s.target < (c.at_.length : Int) := by omega
          have q2 := hr.1
          have hgt2 := rowsI_get (l := c.at_.set t s.to) (i := s.target.toNat) (by simp; omega)
          have hst2 := rowsI_set (c.at_.set t s.to) s.target.toNat 0
          have ha1 : List.take c.at_.length (rowsI ((c.at_.set t s.to).set s.target.toNat 0)) = rowsI ((c.at_.set t s.to).set s.target.toNat 0) := take_all (by rw [rowsI_len]; simp)
          simp -dsimp -implicitDefEqProofs only [go_sem, seval, hkd, hkk, hkk', q1, q2, hgt2, hst2, hb1, hb3, ha1, rowsI_len, List.length_set, List.length_replicate, Nat.le_refl, rowsI_toT]
          simp [execS, hkd, replicate_map]
        · have ha1 : List.take c.at_.length (rowsI (c.at_.set t s.to)) = rowsI (c.at_.set t s.to) := take_all (by rw [rowsI_len]; simp)
          simp -dsimp -implicitDefEqProofs only [go_sem, seval, hkd, hkk, hkk', hb1, hb3, ha1, rowsI_len, List.length_set, List.length_replicate, Nat.le_refl, rowsI_toT]
          simp [execS, hkd, replicate_map]
def doneM (p : Prog) (c : Config) : Bool := formedM p && isM p c && (c.at_.zip p.threads).all fun q => decide (q.1 = -1) || decide (q.1 = q.2.points - 1)
theorem zip_all_drop {α β : Type} {l : List α} {m : List β} (h : l.length = m.length) : (l.zip m).length = l.length := by rw [List.length_zip]; omega
theorem doneP_den (p : Prog) (hs : p.sane) (c : Config) (hcs : c.sane) : Den Γ G 22 [(.agg [.t (.sl ((p).cells.map (Cell.enc))), .t (.sl ((p).modules.map (Contract.enc))), .t (.sl ((p).locks.map (Lock.enc))), .t (.sl ((p).threads.map (Thread.enc)))]), (.agg [.t (ints (c).mem), .t (ints (c).at_), .t (.sl ((c).buf.map (fun b => [.sl (b.map Entry.enc)])))])] = some (vb (doneM p c)) := by
  (refine den_ofY Γ22 rfl ?_; dsimp only [f22])
  have h1 := machineValid_den p hs
  simp -dsimp -implicitDefEqProofs only [go_sem, seval, h1]
  cases hf : formedM p
  · simp -dsimp -implicitDefEqProofs only [go_sem, seval]
    simp [doneM, hf]
  · have h2 := fitsP_den p hf c hcs
    simp -dsimp -implicitDefEqProofs only [go_sem, seval, h2]
    cases hc : isM p c
    · simp -dsimp -implicitDefEqProofs only [go_sem, seval]
      simp [doneM, hf, hc]
    · obtain ⟨l1, l2, l3⟩ := is_len hc
      obtain ⟨⟨m1, m2, m3, m4⟩, _⟩ := limits_points (formed_limits hf).1
      have hD : doneM p c = (c.at_.zip p.threads).all fun q => decide (q.1 = -1) || decide (q.1 = q.2.points - 1) := by simp [doneM, hf, hc]
      have hzl := zip_all_drop l2
      simp -dsimp -implicitDefEqProofs only [go_sem, seval]
      refine loopY 274877382768 c.at_.length (fun i f => (f 19).v = vi i ∧ doneM p c = ((c.at_.zip p.threads).drop i).all fun q => decide (q.1 = -1) || decide (q.1 = q.2.points - 1)) rfl rfl ⟨by simp -dsimp -implicitDefEqProofs only [go_sem, seval], hD⟩ ?_
      rintro i f u kk bb hi ⟨h19, hall⟩
      have hw := wrapS i (by omega)
      simp -dsimp -implicitDefEqProofs only [go_sem, seval, h19]
      refine csplit (fun h => ?_) (fun h => ?_) <;> (try rw [h]) <;> (try simp only [bools] at h) <;> (try simp -dsimp -implicitDefEqProofs only [go_sem, seval, h19])
      · obtain ⟨a, ha, _⟩ := get_of ‹i < c.at_.length›
        obtain ⟨x, hx, _⟩ := get_of (show i < p.threads.length by omega)
        have hz := zip_get ha hx
        have hpb := points_bound hf hx
        have hwp : IntKind.i64.wrap (x.points - 1) = x.points - 1 := wrap64 (by omega)
        simp -dsimp -implicitDefEqProofs only [go_sem, seval, h19, ha, hx, hwp]
        repeat' (refine csplit (fun h => ?_) (fun h => ?_) <;> (try rw [h]) <;> (try simp only [bools] at h) <;> (try simp -dsimp -implicitDefEqProofs only [go_sem, seval, h19, ha, hx, hwp]))
        all_goals first
          | (rw [hall, all_stop hz (by simp [*])]; done)
          | (refine ⟨by omega, by simp -dsimp -implicitDefEqProofs only [go_sem, seval, hw], ?_⟩
             rw [hall, all_step hz (by simp [*])])
      · have : i = c.at_.length := by omega
        subst this
        have hz := all_end (fun q : Int × Thread => decide (q.1 = -1) || decide (q.1 = q.2.points - 1)) (c.at_.zip p.threads)
        rw [hzl] at hz
        rw [hall, hz]
end Rg
end
section
namespace Rg
open Go
theorem zip_eq {α : Type} [DecidableEq α] : ∀ {a b : List α}, a.length = b.length → ((a.zip b).all fun q => decide (q.1 = q.2)) = decide (a = b)
  | [], [], _ => rfl
  | [], _ :: _, h => by simp at h
  | _ :: _, [], h => by simp at h
  | x :: a, y :: b, h => by
    simp only [List.length_cons, Nat.add_right_cancel_iff] at h
    rw [List.zip_cons_cons, List.all_cons, zip_eq h]
    by_cases h1 : x = y <;> by_cases h2 : a = b <;> simp [h1, h2]
theorem sameInts_den (a b : List Int) (hl : a.length < 2 ^ 40) : Den Γ G 34 [.t (ints a), .t (ints b)] = some (vb (decide (a = b))) := by
  (refine den_ofY Γ34 rfl ?_; dsimp only [f34])
  simp -dsimp -implicitDefEqProofs only [go_sem, seval]
  by_cases hlen : a.length = b.length
  · have hl' : decide (¬ (a.length : Int) = b.length) = false := by simp [hlen]
    simp -dsimp -implicitDefEqProofs only [go_sem, seval, hl']
    rw [← zip_eq hlen]
    have hzl := zip_all_drop hlen
    refine loopY 67106864 a.length (fun i f => (f 5).v = vi i ∧ ((a.zip b).all fun q => decide (q.1 = q.2)) = ((a.zip b).drop i).all fun q => decide (q.1 = q.2)) rfl rfl ⟨by simp -dsimp -implicitDefEqProofs only [go_sem, seval], rfl⟩ ?_
    rintro i f u kk bb hi ⟨h5, hall⟩
    have hw := wrapS i (by omega)
    simp -dsimp -implicitDefEqProofs only [go_sem, seval, h5]
    refine csplit (fun h => ?_) (fun h => ?_) <;> (try rw [h]) <;> (try simp only [bools] at h) <;> (try simp -dsimp -implicitDefEqProofs only [go_sem, seval, h5])
    · obtain ⟨x, hx, _⟩ := get_of ‹i < a.length›
      obtain ⟨y, hy, _⟩ := get_of (show i < b.length by omega)
      have hz := zip_get hx hy
      simp -dsimp -implicitDefEqProofs only [go_sem, seval, h5, hx, hy]
      refine csplit (fun h => ?_) (fun h => ?_) <;> (try rw [h]) <;> (try simp only [bools] at h) <;> (try simp -dsimp -implicitDefEqProofs only [go_sem, seval, h5])
      · rw [hall, all_stop hz (by simpa using h)]
      · refine ⟨by omega, by simp -dsimp -implicitDefEqProofs only [go_sem, seval, hw], ?_⟩
        rw [hall, all_step hz (by simpa using h)]
    · have : i = a.length := by omega
      subst this
      have hz := all_end (fun q : Int × Int => decide (q.1 = q.2)) (a.zip b)
      rw [hzl] at hz
      rw [hall, hz]
  · have hl' : decide (¬ (a.length : Int) = b.length) = true := by simp; omega
    simp -dsimp -implicitDefEqProofs only [go_sem, seval, hl']
    have : ¬ a = b := fun h => hlen (by rw [h])
    simp [this]
end Rg
end
section
namespace Rg
open Go
abbrev bytesT (l : List Int) : T := .sl (l.map fun n => [.int .u8 n])
def pickAt (l : List Choice) (k : Int) : Choice := l.getD (k.toNat % l.length) ⟨0, 0, 0⟩
def walkGo (p : Prog) : Config → List Int → Config
  | c, [] => c
  | c, k :: r => if enabledL p c = [] then c else walkGo p (nextM p c (pickAt (enabledL p c) k)).1 r
def walkM (p : Prog) (picks : List Int) : Config := walkGo p (startM p) picks
theorem zero_sane : zeroC.sane := ⟨by simp [zeroC], by simp [zeroC], by simp [zeroC]⟩
theorem exec_sane {p : Prog} (hs : p.sane) {c : Config} (hc : c.sane) (t : Nat) (s : Step) : (execS p c t s).sane := by
  refine ⟨?_, ?_, ?_⟩
  · simp only [execS, write_len]; exact hc.mem
  · simp only [execS]; split <;> simp <;> exact hc.at_
  · simp only [execS, List.length_map]; exact hs.threads
theorem next_sane {p : Prog} (hs : p.sane) {c : Config} (hc : c.sane) (x : Choice) : (nextM p c x).1.sane := by
  unfold nextM
  split
  · split
    · show (execM p c x).sane
      unfold execM
      split
      · exact exec_sane hs hc _ _
      · exact zero_sane
    · exact zero_sane
  · exact zero_sane
theorem start_sane {p : Prog} (hs : p.sane) : (startM p).sane := by
  unfold startM
  split
  · exact ⟨by simp; exact hs.cells, by simp; exact hs.threads, by simp; exact hs.threads⟩
  · exact ⟨by simp, by simp, by simp⟩
theorem enabled_len {p : Prog} (c : Config) : (enabledL p c).length ≤ 256 := by
  unfold enabledL
  split
  · rename_i h
    simp only [Bool.and_eq_true] at h
    have h1 := choicesN_len h.1 c p.threads.length
    have h2 := (limits_points (formed_limits h.1).1).1
    unfold choicesM; omega
  · simp
theorem walkR_den (p : Prog) (hs : p.sane) (picks : List Int) (hpk : ∀ k ∈ picks, 0 ≤ k ∧ k < 256) (hlen : picks.length ≤ 40) : Den Γ G 15 [(.agg [.t (.sl ((p).cells.map (Cell.enc))), .t (.sl ((p).modules.map (Contract.enc))), .t (.sl ((p).locks.map (Lock.enc))), .t (.sl ((p).threads.map (Thread.enc)))]), .t (bytesT picks), vi 40] = some (.agg [.t (ints (walkM p picks).mem), .t (ints (walkM p picks).at_), .t (.sl ((walkM p picks).buf.map (fun b => [.sl (b.map Entry.enc)])))]) := by
  (refine den_ofY Γ15 rfl ?_; dsimp only [f15])
  have h1 := startR_den p hs
  have hlb : (picks.map fun n => [T.int .u8 n]).length = picks.length := by simp
  simp -dsimp -implicitDefEqProofs only [go_sem, seval, h1]
  refine loopY 140737488352192 picks.length (fun i f => (f 8).v = vi i ∧ (f 6).v = .lb ∧ (f 6).box = some [.t .nils, .t .nils, .t .nils] ∧ ∃ c : Config, c.sane ∧ (f 7).v = .lb ∧ (f 7).box = some [.t (ints c.mem), .t (ints c.at_), .t (.sl (c.buf.map (fun b => [.sl (b.map Entry.enc)])))] ∧ walkM p picks = walkGo p c (picks.drop i)) rfl rfl
    ⟨by simp -dsimp -implicitDefEqProofs only [go_sem, seval], by simp -dsimp -implicitDefEqProofs only [go_sem, seval], by simp -dsimp -implicitDefEqProofs only [go_sem, seval], startM p, start_sane hs, by simp -dsimp -implicitDefEqProofs only [go_sem, seval], by simp -dsimp -implicitDefEqProofs only [go_sem, seval], rfl⟩ ?_
  rintro i f u kk bb hi ⟨h8, b1, b2, c, hc, b3, b4, hwk⟩
  have hw := wrapS i (by omega)
  simp -dsimp -implicitDefEqProofs only [go_sem, seval, h8]
  refine csplit (fun h => ?_) (fun h => ?_) <;> (try rw [h]) <;> (try simp only [bools] at h) <;> (try simp -dsimp -implicitDefEqProofs only [go_sem, seval, h8])
  · have hi40 : (i : Int) < 40 := by omega
    obtain ⟨k, hk, hkm⟩ := get_of ‹i < picks.length›
    have hen := enabledRL_den p hs c hc
    have hel := enabled_len (p := p) c
    obtain ⟨k0, k1⟩ := hpk k hkm
    simp -dsimp -implicitDefEqProofs only [go_sem, seval, h8, hi40, b3, b4, hen]
    rw [drop_of hk, walkGo] at hwk
    by_cases he : enabledL p c = []
    · rw [if_pos he] at hwk
      have he0 : (enabledL p c).length = 0 := by rw [he]; rfl
      simp -dsimp -implicitDefEqProofs only [go_sem, seval, he0, b3, b4, b1, b2]
      rw [hwk]
      exact ⟨rfl, rfl, rfl⟩
    · rw [if_neg he] at hwk
      have he1 : 0 < (enabledL p c).length := List.length_pos_iff.2 he
      have he0 : ¬ (((enabledL p c).length : Nat) : Int) = 0 := by omega
      have hwk8 : IntKind.i64.wrap k = k := wrap64 (by omega)
      have hrem : k.tmod (enabledL p c).length = ((k.toNat % (enabledL p c).length : Nat) : Int) := by
        rw [Int.tmod_eq_emod_of_nonneg k0, Int.natCast_emod, Int.toNat_of_nonneg k0]
      have hri : k.toNat % (enabledL p c).length < (enabledL p c).length := Nat.mod_lt _ he1
      obtain ⟨x, hx, _⟩ := get_of hri
      have hx' : pickAt (enabledL p c) k = x := by simp [pickAt, List.getD, hx]
      have hnx := nextR_den p hs c hc x
      rw [hx'] at hwk
      have hns := next_sane hs hc x
      simp -dsimp -implicitDefEqProofs only [go_sem, seval, he0, h8, b3, b4, hk, hwk8, hrem, hx, hnx]
      refine ⟨by omega, by simp -dsimp -implicitDefEqProofs only [go_sem, seval, hw], by simp -dsimp -implicitDefEqProofs only [go_sem, seval, b1], by simp -dsimp -implicitDefEqProofs only [go_sem, seval, b2], (nextM p c x).1, hns, by simp -dsimp -implicitDefEqProofs only [go_sem, seval, b3], by simp -dsimp -implicitDefEqProofs only [go_sem, seval], hwk⟩
  · have : i = picks.length := by omega
    subst this
    rw [List.drop_length, walkGo] at hwk
    simp -dsimp -implicitDefEqProofs only [go_sem, seval, b1, b2, b3, b4]
    rw [hwk]
    exact ⟨rfl, rfl, rfl⟩
end Rg
end
section
namespace Rg
open Go
def fewA (a : Assign) : Bool := decide ((a.to.size : Int) ≤ 30)
def fewS (s : Step) : Bool := decide ((s.guard.size : Int) ≤ 30) && decide ((s.set.length : Int) ≤ 8) && s.set.all fewA
def fewL (l : Loop) : Bool := decide ((l.variant.size : Int) ≤ 30) && decide ((l.body.length : Int) ≤ 48)
def few60 (e : Expr) : Bool := decide ((e.size : Int) ≤ 60)
def fewT (x : Thread) : Bool := x.steps.all fewS && x.asserts.all few60 && x.loops.all fewL
theorem few_den (x : Thread) (h1 : x.steps.length < 2 ^ 40) (h2 : x.asserts.length < 2 ^ 40) (h3 : x.loops.length < 2 ^ 40) : Den Γ G 36 [(.agg [.t (.str (x).name), .t (ti (x).points), .t (.sl ((x).asserts.map Expr.enc)), .t (ints (x).modules), .t (.sl ((x).steps.map Step.enc)), .t (.sl ((x).loops.map Loop.enc)), .t (tb (x).asleep)])] = some (vb (fewT x)) := by
  (refine den_ofY Γ36 rfl ?_; dsimp only [f36])
  simp -dsimp -implicitDefEqProofs only [go_sem, seval]
  refine loopY 36028797018963868 x.steps.length (fun i f => (f 3).v = vi i ∧ x.steps.all fewS = (x.steps.drop i).all fewS) rfl rfl ⟨by simp -dsimp -implicitDefEqProofs only [go_sem, seval], rfl⟩ ?_
  rintro i f u kk bb hi ⟨h3', hall⟩
  have hw := wrapS i (by omega)
  simp -dsimp -implicitDefEqProofs only [go_sem, seval, h3']
  refine csplit (fun h => ?_) (fun h => ?_) <;> (try rw [h]) <;> (try simp only [bools] at h) <;> (try simp -dsimp -implicitDefEqProofs only [go_sem, seval, h3'])
  · obtain ⟨s, hs, hsm⟩ := get_of ‹i < x.steps.length›
    have hg := small_den s.guard 30 (by omega)
    have hno : fewS s = false → false = fewT x := fun h0 => by rw [fewT, hall, all_stop hs h0]; rfl
    simp -dsimp -implicitDefEqProofs only [go_sem, seval, h3', hs, hg]
    refine csplit (fun h => ?_) (fun h => ?_) <;> (try rw [h]) <;> (try simp only [bools] at h) <;> (try simp -dsimp -implicitDefEqProofs only [go_sem, seval, h3', hs])
    · exact hno (by simp [fewS]; omega)
    · have e1 : (s.guard.size : Int) ≤ 30 := by assumption
      refine csplit (fun h => ?_) (fun h => ?_) <;> (try rw [h]) <;> (try simp only [bools] at h) <;> (try simp -dsimp -implicitDefEqProofs only [go_sem, seval, h3'])
      · exact hno (by simp [fewS]; omega)
      · have e2 : (s.set.length : Int) ≤ 8 := by omega
        refine loopY 36028792723996692 s.set.length (fun k f' => (f' 4).v = vi k ∧ s.set.all fewA = (s.set.drop k).all fewA) rfl rfl ⟨by simp -dsimp -implicitDefEqProofs only [go_sem, seval], rfl⟩ ?_
        rintro k f' u' kk' bb' hk ⟨h4, hall2⟩
        have hw' := wrapS k (by omega)
        simp -dsimp -implicitDefEqProofs only [go_sem, seval, h3', h4, hs]
        refine csplit (fun h => ?_) (fun h => ?_) <;> (try rw [h]) <;> (try simp only [bools] at h) <;> (try simp -dsimp -implicitDefEqProofs only [go_sem, seval, h3', h4])
        · obtain ⟨a, ha, ham⟩ := get_of ‹k < s.set.length›
          have hga := small_den a.to 30 (by omega)
          simp -dsimp -implicitDefEqProofs only [go_sem, seval, h3', h4, hs, ha, hga]
          refine csplit (fun h => ?_) (fun h => ?_) <;> (try rw [h]) <;> (try simp only [bools] at h) <;> (try simp -dsimp -implicitDefEqProofs only [go_sem, seval, h3', h4])
          · exact hno (by rw [fewS, hall2, all_stop ha (by simp [fewA]; omega)]; simp)
          · refine ⟨by omega, by simp -dsimp -implicitDefEqProofs only [go_sem, seval, hw'], ?_⟩
            rw [hall2, all_step ha (by simp [fewA]; omega)]
        · have : k = s.set.length := by omega
          subst this
          rw [all_end] at hall2
          refine ⟨by omega, by simp -dsimp -implicitDefEqProofs only [go_sem, seval, hw], ?_⟩
          rw [hall, all_step hs (by rw [fewS, hall2]; simp; omega)]
  · have : i = x.steps.length := by omega
    subst this
    rw [all_end] at hall
    clear h3' hw
    refine loopY 590259781561686687780 x.asserts.length (fun i f => (f 5).v = vi i ∧ x.asserts.all few60 = (x.asserts.drop i).all few60) rfl rfl ⟨by simp -dsimp -implicitDefEqProofs only [go_sem, seval], rfl⟩ ?_
    rintro i f u kk bb hi ⟨h5, hall2⟩
    have hw := wrapS i (by omega)
    simp -dsimp -implicitDefEqProofs only [go_sem, seval, h5]
    refine csplit (fun h => ?_) (fun h => ?_) <;> (try rw [h]) <;> (try simp only [bools] at h) <;> (try simp -dsimp -implicitDefEqProofs only [go_sem, seval, h5])
    · obtain ⟨e, he, _⟩ := get_of ‹i < x.asserts.length›
      have hg := small_den e 60 (by omega)
      simp -dsimp -implicitDefEqProofs only [go_sem, seval, h5, he, hg]
      refine csplit (fun h => ?_) (fun h => ?_) <;> (try rw [h]) <;> (try simp only [bools] at h) <;> (try simp -dsimp -implicitDefEqProofs only [go_sem, seval, h5])
      · rw [fewT, hall, hall2, all_stop he (by simp [few60]; omega)]; rfl
      · refine ⟨by omega, by simp -dsimp -implicitDefEqProofs only [go_sem, seval, hw], ?_⟩
        rw [hall2, all_step he (by simp [few60]; omega)]
    · have : i = x.asserts.length := by omega
      subst this
      rw [all_end] at hall2
      clear h5 hw
      refine loopY 19807040038270274039680335940 x.loops.length (fun i f => (f 6).v = vi i ∧ x.loops.all fewL = (x.loops.drop i).all fewL) rfl rfl ⟨by simp -dsimp -implicitDefEqProofs only [go_sem, seval], rfl⟩ ?_
      rintro i f u kk bb hi ⟨h6, hall3⟩
      have hw := wrapS i (by omega)
      simp -dsimp -implicitDefEqProofs only [go_sem, seval, h6]
      refine csplit (fun h => ?_) (fun h => ?_) <;> (try rw [h]) <;> (try simp only [bools] at h) <;> (try simp -dsimp -implicitDefEqProofs only [go_sem, seval, h6])
      · obtain ⟨l, hl, _⟩ := get_of ‹i < x.loops.length›
        have hg := small_den l.variant 30 (by omega)
        have hno : fewL l = false → false = fewT x := fun h0 => by rw [fewT, hall, hall2, hall3, all_stop hl h0]; rfl
        simp -dsimp -implicitDefEqProofs only [go_sem, seval, h6, hl, hg]
        refine csplit (fun h => ?_) (fun h => ?_) <;> (try rw [h]) <;> (try simp only [bools] at h) <;> (try simp -dsimp -implicitDefEqProofs only [go_sem, seval, h6, hl])
        · exact hno (by simp [fewL]; omega)
        · have e1 : (l.variant.size : Int) ≤ 30 := by assumption
          refine csplit (fun h => ?_) (fun h => ?_) <;> (try rw [h]) <;> (try simp only [bools] at h) <;> (try simp -dsimp -implicitDefEqProofs only [go_sem, seval, h6])
          · exact hno (by simp [fewL]; omega)
          · refine ⟨by omega, by simp -dsimp -implicitDefEqProofs only [go_sem, seval, hw], ?_⟩
            rw [hall3, all_step hl (by simp [fewL]; omega)]
      · have : i = x.loops.length := by omega
        subst this
        rw [all_end] at hall3
        rw [fewT, hall, hall2, hall3]; rfl
def fewGo : Int → List Thread → Bool
  | _, [] => true
  | n, x :: r => if n + x.steps.length > 24 ∨ (x.asserts.length : Int) > 48 ∨ (x.modules.length : Int) > 48 ∨ (x.loops.length : Int) > 8 ∨ fewT x = false then false else fewGo (n + x.steps.length) r
def fewC (m : Contract) : Bool := few60 m.rely && few60 m.guar && decide ((m.frame.length : Int) ≤ 32)
def fewM (p : Prog) : Bool :=
  decide ((p.cells.length : Int) ≤ 32) && decide ((p.threads.length : Int) ≤ 4) && decide ((p.modules.length : Int) ≤ 6) && decide ((p.locks.length : Int) ≤ 4) &&
    fewGo 0 p.threads && p.modules.all fewC && p.locks.all fun l => few60 l.inv
theorem fewM_den (p : Prog) (hb : ∀ x ∈ p.threads, x.steps.length < 2 ^ 50) : Den Γ G 9 [(.agg [.t (.sl ((p).cells.map (Cell.enc))), .t (.sl ((p).modules.map (Contract.enc))), .t (.sl ((p).locks.map (Lock.enc))), .t (.sl ((p).threads.map (Thread.enc)))])] = some (vb (fewM p)) := by
  (refine den_ofY Γ9 rfl ?_; dsimp only [f9])
  simp -dsimp -implicitDefEqProofs only [go_sem, seval]
  by_cases hl : (p.cells.length : Int) ≤ 32 ∧ (p.threads.length : Int) ≤ 4 ∧ (p.modules.length : Int) ≤ 6 ∧ (p.locks.length : Int) ≤ 4
  · obtain ⟨l1, l2, l3, l4⟩ := hl
    have g1 : ¬ (p.cells.length : Int) > 32 := by omega
    have g2 : ¬ (p.threads.length : Int) > 4 := by omega
    have g3 : ¬ (p.modules.length : Int) > 6 := by omega
    have g4 : ¬ (p.locks.length : Int) > 4 := by omega
    have hF : fewM p = (fewGo 0 p.threads && p.modules.all fewC && p.locks.all fun l => few60 l.inv) := by simp [fewM, l1, l2, l3, l4]
    simp -dsimp -implicitDefEqProofs only [go_sem, seval, g1, g2, g3, g4]
    refine loopY 4722366482868571471932 p.threads.length (fun i f => (f 4).v = vi i ∧ ∃ n : Int, 0 ≤ n ∧ n ≤ 24 ∧ (f 3).v = vi n ∧ fewGo 0 p.threads = fewGo n (p.threads.drop i)) rfl rfl ⟨by simp -dsimp -implicitDefEqProofs only [go_sem, seval], 0, by omega, by omega, by simp -dsimp -implicitDefEqProofs only [go_sem, seval], rfl⟩ ?_
    rintro i f u kk bb hi ⟨h4, n, n0, n1, h3, hgo⟩
    have hw := wrapS i (by omega)
    simp -dsimp -implicitDefEqProofs only [go_sem, seval, h4]
    refine csplit (fun h => ?_) (fun h => ?_) <;> (try rw [h]) <;> (try simp only [bools] at h) <;> (try simp -dsimp -implicitDefEqProofs only [go_sem, seval, h4])
    · obtain ⟨x, hx, hxm⟩ := get_of ‹i < p.threads.length›
      have hsl := hb x hxm
      have hwn : IntKind.i64.wrap (n + (x.steps.length : Int)) = n + x.steps.length := wrap64 (by omega)
      rw [drop_of hx, fewGo] at hgo
      simp -dsimp -implicitDefEqProofs only [go_sem, seval, h4, h3, hx, hwn]
      by_cases hbad : n + x.steps.length > 24 ∨ (x.asserts.length : Int) > 48 ∨ (x.modules.length : Int) > 48 ∨ (x.loops.length : Int) > 8
      · rw [if_pos (by rcases hbad with h | h | h | h <;> simp [h])] at hgo
        rw [hF, hgo, Bool.false_and, Bool.false_and]
        repeat' (refine csplit (fun h => ?_) (fun h => ?_) <;> (try rw [h]) <;> (try simp only [bools] at h) <;> (try simp -dsimp -implicitDefEqProofs only [go_sem, seval, h4]))
        all_goals (exfalso; omega)
      · have k1 : ¬ n + (x.steps.length : Int) > 24 := by omega
        have k2 : ¬ (x.asserts.length : Int) > 48 := by omega
        have k3 : ¬ (x.modules.length : Int) > 48 := by omega
        have k4 : ¬ (x.loops.length : Int) > 8 := by omega
        have hfw := few_den x (by omega) (by omega) (by omega)
        simp -dsimp -implicitDefEqProofs only [go_sem, seval, k1, k2, k3, k4, hfw]
        refine csplit (fun h => ?_) (fun h => ?_) <;> (try rw [h]) <;> (try simp only [bools] at h) <;> (try simp -dsimp -implicitDefEqProofs only [go_sem, seval, h4])
        · rw [if_pos (by simp [h])] at hgo
          rw [hF, hgo, Bool.false_and, Bool.false_and]
        · rw [if_neg (by simp [h]; omega)] at hgo
          exact ⟨by omega, by simp -dsimp -implicitDefEqProofs only [go_sem, seval, hw], n + x.steps.length, by omega, by omega, by simp -dsimp -implicitDefEqProofs only [go_sem, seval], hgo⟩
    · have : i = p.threads.length := by omega
      subst this
      rw [List.drop_length, fewGo] at hgo
      rw [hgo, Bool.true_and] at hF
      clear h4 hw h3 hgo
      refine loopY 162259276824490996908708365074500 p.modules.length (fun i f => (f 6).v = vi i ∧ p.modules.all fewC = (p.modules.drop i).all fewC) rfl rfl ⟨by simp -dsimp -implicitDefEqProofs only [go_sem, seval], rfl⟩ ?_
      rintro i f u kk bb hi ⟨h6, hall⟩
      have hw := wrapS i (by omega)
      simp -dsimp -implicitDefEqProofs only [go_sem, seval, h6]
      refine csplit (fun h => ?_) (fun h => ?_) <;> (try rw [h]) <;> (try simp only [bools] at h) <;> (try simp -dsimp -implicitDefEqProofs only [go_sem, seval, h6])
      · obtain ⟨m, hm, _⟩ := get_of ‹i < p.modules.length›
        have hg1 := small_den m.rely 60 (by omega)
        have hg2 := small_den m.guar 60 (by omega)
        have hno : fewC m = false → false = fewM p := fun h0 => by rw [hF, hall, all_stop hm h0]; rfl
        simp -dsimp -implicitDefEqProofs only [go_sem, seval, h6, hm, hg1]
        refine csplit (fun h => ?_) (fun h => ?_) <;> (try rw [h]) <;> (try simp only [bools] at h) <;> (try simp -dsimp -implicitDefEqProofs only [go_sem, seval, h6, hm, hg2])
        · exact hno (by simp [fewC, few60]; omega)
        · have e1 : (m.rely.size : Int) ≤ 60 := by assumption
          refine csplit (fun h => ?_) (fun h => ?_) <;> (try rw [h]) <;> (try simp only [bools] at h) <;> (try simp -dsimp -implicitDefEqProofs only [go_sem, seval, h6, hm])
          · exact hno (by simp [fewC, few60]; omega)
          · have e2 : (m.guar.size : Int) ≤ 60 := by assumption
            refine csplit (fun h => ?_) (fun h => ?_) <;> (try rw [h]) <;> (try simp only [bools] at h) <;> (try simp -dsimp -implicitDefEqProofs only [go_sem, seval, h6])
            · exact hno (by simp [fewC, few60]; omega)
            · refine ⟨by omega, by simp -dsimp -implicitDefEqProofs only [go_sem, seval, hw], ?_⟩
              rw [hall, all_step hm (by simp [fewC, few60]; omega)]
      · have : i = p.modules.length := by omega
        subst this
        rw [all_end] at hall
        rw [hall, Bool.true_and] at hF
        clear h6 hw hall
        refine loopY 5316749723862834278251836663111090308 p.locks.length (fun i f => (f 7).v = vi i ∧ fewM p = (p.locks.drop i).all fun l => few60 l.inv) rfl rfl ⟨by simp -dsimp -implicitDefEqProofs only [go_sem, seval], hF⟩ ?_
        rintro i f u kk bb hi ⟨h7, hall⟩
        have hw := wrapS i (by omega)
        simp -dsimp -implicitDefEqProofs only [go_sem, seval, h7]
        refine csplit (fun h => ?_) (fun h => ?_) <;> (try rw [h]) <;> (try simp only [bools] at h) <;> (try simp -dsimp -implicitDefEqProofs only [go_sem, seval, h7])
        · obtain ⟨l, hl, _⟩ := get_of ‹i < p.locks.length›
          have hg1 := small_den l.inv 60 (by omega)
          simp -dsimp -implicitDefEqProofs only [go_sem, seval, h7, hl, hg1]
          refine csplit (fun h => ?_) (fun h => ?_) <;> (try rw [h]) <;> (try simp only [bools] at h) <;> (try simp -dsimp -implicitDefEqProofs only [go_sem, seval, h7])
          · rw [hall, all_stop hl (by simp [few60]; omega)]
          · refine ⟨by omega, by simp -dsimp -implicitDefEqProofs only [go_sem, seval, hw], ?_⟩
            rw [hall, all_step hl (by simp [few60]; omega)]
        · have : i = p.locks.length := by omega
          subst this
          rw [hall, all_end]
  · have hF : fewM p = false := by
      cases h : fewM p
      · rfl
      · exfalso
        simp only [fewM, Bool.and_eq_true, decide_eq_true_eq] at h
        omega
    rw [hF]
    repeat' (refine csplit (fun h => ?_) (fun h => ?_) <;> (try rw [h]) <;> (try simp only [bools] at h) <;> (try simp -dsimp -implicitDefEqProofs only [go_sem, seval]))
    all_goals (exfalso; omega)
end Rg
end
section
namespace Rg
open Go
def exOne : Expr := .mk 1 1 1 []
def exampleM : Prog :=
  ⟨[⟨bs [77, 46, 120], 2, 1, -1, false, 0⟩, ⟨bs [116, 46, 114], 2, 0, 0, false, 0⟩],
   [⟨bs [77], bs [111], .mk 0 0 0 [], exOne, [0]⟩], [],
   [⟨bs [116], 3, [exOne, exOne, exOne], [0, 0, 0],
     [⟨2, 0, 1, exOne, [⟨1, .mk 2 2 0 []⟩], false, 0, 0⟩,
      ⟨4, 1, 2, .mk 12 1 0 [.mk 2 2 0 [], .mk 1 2 3 []], [⟨0, .mk 8 2 0 [.mk 2 2 0 [], .mk 1 2 1 []]⟩], false, 0, 0⟩], [], false⟩]⟩
theorem example_den : Den Γ G 35 [] = some (.agg [.t (.sl ((exampleM).cells.map (Cell.enc))), .t (.sl ((exampleM).modules.map (Contract.enc))), .t (.sl ((exampleM).locks.map (Lock.enc))), .t (.sl ((exampleM).threads.map (Thread.enc)))]) := by
  (refine den_ofY Γ35 rfl ?_; dsimp only [f35])
  have c1 := const_den 1 1
  have c2 := const_den 3 2
  have c3 := const_den 1 2
  have c4 := cell_den 0 2
  have c5 := two_den 12 1 (.mk 2 2 0 []) (.mk 1 2 3 [])
  have c6 := two_den 8 2 (.mk 2 2 0 []) (.mk 1 2 1 [])
  simp only [go_sem, List.map_cons, List.map_nil] at c1 c2 c3 c4 c5 c6
  simp -dsimp -implicitDefEqProofs only [go_sem, seval, c1, c2, c3, c4, c5, c6]
  exact ⟨rfl, rfl, rfl, rfl⟩
end Rg
end
section
-- FULL
namespace Rg
open Go
theorem ex_sane : exampleM.sane := by
  constructor <;> decide +kernel
def exC (a b c : Int) : Config := ⟨[a, b], [c], [[]]⟩
theorem exC_sane (a b c : Int) : (exC a b c).sane := ⟨by simp [exC], by simp [exC], by simp [exC]⟩
theorem ex_start : startM exampleM = exC 1 0 0 := by decide +kernel
theorem ex_en : enabledL exampleM (exC 1 0 0) = [⟨0, 0, 0⟩] := by decide +kernel
theorem ex_n1 : nextM exampleM (exC 1 0 0) ⟨0, 0, 0⟩ = (exC 1 1 1, 0) := by decide +kernel
theorem ex_n2 : nextM exampleM (exC 1 1 1) ⟨0, 1, 0⟩ = (exC 2 1 2, 0) := by decide +kernel
theorem ex_n3 : nextM exampleM (exC 1 1 1) ⟨0, 0, 0⟩ = (zeroC, 110) := by decide +kernel
theorem ex_d1 : doneM exampleM (exC 1 0 0) = false := by decide +kernel
theorem ex_d2 : doneM exampleM (exC 2 1 2) = true := by decide +kernel
theorem head_den : Den Γ G 8 [] = some (vb true) := by
  (refine den_ofY Γ8 rfl ?_; dsimp only [f8])
  have a1 := startP_den exampleM ex_sane
  have a2 := enabledPL_den exampleM ex_sane _ (exC_sane 1 0 0)
  have a3 := nextP_den exampleM ex_sane _ (exC_sane 1 0 0) ⟨0, 0, 0⟩
  have a4 := nextP_den exampleM ex_sane _ (exC_sane 1 1 1) ⟨0, 1, 0⟩
  have a5 := nextP_den exampleM ex_sane _ (exC_sane 1 1 1) ⟨0, 0, 0⟩
  have a6 := doneP_den exampleM ex_sane _ (exC_sane 1 0 0)
  have a7 := doneP_den exampleM ex_sane _ (exC_sane 2 1 2)
  have s1 : Den Γ G 34 [.t (ints [1, 0]), .t (.sl [[.int .i64 1], [.int .i64 0]])] = some (vb true) := (sameInts_den [1, 0] [1, 0] (by decide)).trans rfl
  have s2 : Den Γ G 34 [.t (ints [1, 1]), .t (.sl [[.int .i64 1], [.int .i64 1]])] = some (vb true) := (sameInts_den [1, 1] [1, 1] (by decide)).trans rfl
  have s3 : Den Γ G 34 [.t (ints [2, 1]), .t (.sl [[.int .i64 2], [.int .i64 1]])] = some (vb true) := (sameInts_den [2, 1] [2, 1] (by decide)).trans rfl
  have s4 : Den Γ G 34 [.t (ints [2]), .t (.sl [[.int .i64 2]])] = some (vb true) := (sameInts_den [2] [2] (by decide)).trans rfl
  rw [ex_start] at a1
  rw [ex_en] at a2
  rw [ex_n1] at a3
  rw [ex_n2] at a4
  rw [ex_n3] at a5
  rw [ex_d1] at a6
  rw [ex_d2] at a7
  simp only [go_sem, exC, zeroC, List.map_cons, List.map_nil] at a1 a2 a3 a4 a5 a6 a7
  simp -dsimp -implicitDefEqProofs [go_sem, example_den, a1, a2, a3, a4, a5, a6, a7, s1, s2, s3, s4]
end Rg
end
section
-- FULL
namespace Rg
open Go
structure Prog.lite (p : Prog) : Prop where
  steps : ∀ x ∈ p.threads, x.steps.length < 2 ^ 50
  cname : ∀ c ∈ p.cells, c.name.size < 2 ^ 50
  mname : ∀ m ∈ p.modules, m.name.size < 2 ^ 50 ∧ m.owner.size < 2 ^ 50
  tname : ∀ t ∈ p.threads, t.name.size < 2 ^ 50
theorem fewGo_mem {l : List Thread} : ∀ {n : Int}, fewGo n l = true → 0 ≤ n → ∀ x ∈ l, x.steps.length ≤ 24 ∧ x.asserts.length ≤ 48 ∧ x.modules.length ≤ 48 ∧ x.loops.length ≤ 8 ∧ fewT x = true := by
  induction l with
  | nil => intro n _ _ x hx; simp at hx
  | cons y r ih =>
    intro n h hn x hx
    rw [fewGo] at h
    split at h
    · simp at h
    · rename_i h0
      simp only [not_or, Bool.not_eq_false] at h0
      rcases List.mem_cons.1 hx with rfl | hx
      · refine ⟨by omega, by omega, by omega, by omega, h0.2.2.2.2⟩
      · exact ih h (by omega) x hx
theorem few_sane {p : Prog} (hl : p.lite) (h : fewM p = true) : p.sane := by
  simp only [fewM, Bool.and_eq_true, decide_eq_true_eq, List.all_eq_true] at h
  obtain ⟨⟨⟨⟨⟨⟨h1, h2⟩, h3⟩, h4⟩, h5⟩, h6⟩, h7⟩ := h
  have ht := fewGo_mem h5 (by omega)
  refine ⟨by omega, by omega, by omega, by omega, hl.cname, ?_, ?_, ?_, ?_⟩
  · intro m hm
    have := h6 m hm
    simp only [fewC, Bool.and_eq_true, decide_eq_true_eq] at this
    exact ⟨(hl.mname m hm).1, (hl.mname m hm).2, by omega⟩
  · intro t hm
    obtain ⟨a, b, c, d, _⟩ := ht t hm
    exact ⟨hl.tname t hm, by omega, by omega, by omega, by omega⟩
  · intro t hm s hs
    obtain ⟨_, _, _, _, e⟩ := ht t hm
    simp only [fewT, Bool.and_eq_true, List.all_eq_true, fewS, decide_eq_true_eq] at e
    have := e.1.1 s hs
    omega
  · intro t hm l hll
    obtain ⟨_, _, _, _, e⟩ := ht t hm
    simp only [fewT, Bool.and_eq_true, List.all_eq_true, fewL, decide_eq_true_eq] at e
    have := e.2 l hll
    omega
def goodM (p : Prog) : Bool := fewM p && formedM p
theorem good_den (p : Prog) (hl : p.lite) : Den Γ G 16 [(.agg [.t (.sl ((p).cells.map (Cell.enc))), .t (.sl ((p).modules.map (Contract.enc))), .t (.sl ((p).locks.map (Lock.enc))), .t (.sl ((p).threads.map (Thread.enc)))])] = some (vb (goodM p)) := by
  (refine den_ofY Γ16 rfl ?_; dsimp only [f16])
  have h1 := fewM_den p hl.steps
  simp -dsimp -implicitDefEqProofs [go_sem, h1]
  cases hf : fewM p
  · simp -dsimp -implicitDefEqProofs [go_sem, goodM, hf]
  · have h2 := formedR_den p (few_sane hl hf)
    simp -dsimp -implicitDefEqProofs [go_sem, goodM, hf, h2]
end Rg
end
section
namespace Rg
open Go
end Rg
end
section
namespace Rg
open Go
theorem walkGo_sane {p : Prog} (hs : p.sane) : ∀ (l : List Int) (c : Config), c.sane → (walkGo p c l).sane
  | [], c, h => h
  | k :: r, c, h => by
    rw [walkGo]
    split
    · exact h
    · exact walkGo_sane hs r _ (next_sane hs h _)
theorem walk_sane {p : Prog} (hs : p.sane) (l : List Int) : (walkM p l).sane := walkGo_sane hs l _ (start_sane hs)
end Rg
end
