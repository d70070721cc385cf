/- Part of the proof of the laws of the package relyguardlaw11: an abstract machine for the program's functions, what they compute, and that the machine is the program's. No condition. (H11n H11o H11p H11q H11r) -/
import Derived.Test.YtnfmmdkonagnaaaGreatDoorPartAX
section
/- Rh: layer 11: small programs. No condition. -/
set_option linter.unusedSimpArgs false
set_option linter.unusedVariables false
namespace Rg
open Go
def fewA (a : Assign) : Bool := decide ((a.to.size : Int) ≤ 30)
def fewS (s : Step) : Bool := decide ((s.guard.size : Int) ≤ 30) && decide ((s.set.length : Int) ≤ 8) && s.set.all fewA
def fewL (l : Loop) : Bool := decide ((l.variant.size : Int) ≤ 30) && decide ((l.body.length : Int) ≤ 48)
def few60 (e : Expr) : Bool := decide ((e.size : Int) ≤ 60)
def fewT (x : Thread) : Bool := x.steps.all fewS && x.asserts.all few60 && x.loops.all fewL
theorem few_den (x : Thread) (h1 : x.steps.length < 2 ^ 40) (h2 : x.asserts.length < 2 ^ 40) (h3 : x.loops.length < 2 ^ 40) : Den Γ G 36 [(.agg [.t (.str (x).name), .t (ti (x).points), .t (.sl ((x).asserts.map Expr.enc)), .t (ints (x).modules), .t (.sl ((x).steps.map Step.enc)), .t (.sl ((x).loops.map Loop.enc)), .t (tb (x).asleep)])] = some (vb (fewT x)) := by
  (refine den_ofY Γ36 rfl ?_; dsimp only [f36])
  simp -dsimp -implicitDefEqProofs only [go_sem, seval]
  refine loopY 36028797018963868 x.steps.length (fun i f => (f 3).v = vi i ∧ x.steps.all fewS = (x.steps.drop i).all fewS) rfl rfl ⟨by simp -dsimp -implicitDefEqProofs only [go_sem, seval], rfl⟩ ?_
  rintro i f u kk bb hi ⟨h3', hall⟩
  have hw := wrapS i (by omega)
  simp -dsimp -implicitDefEqProofs only [go_sem, seval, h3']
  refine csplit (fun h => ?_) (fun h => ?_) <;> (try rw [h]) <;> (try simp only [bools] at h) <;> (try simp -dsimp -implicitDefEqProofs only [go_sem, seval, h3'])
  · obtain ⟨s, hs, hsm⟩ := get_of ‹i < x.steps.length›
    have hg := small_den s.guard 30 (by omega)
    have hno : fewS s = false → false = fewT x := fun h0 => by rw [fewT, hall, all_stop hs h0]; rfl
    simp -dsimp -implicitDefEqProofs only [go_sem, seval, h3', hs, hg]
    refine csplit (fun h => ?_) (fun h => ?_) <;> (try rw [h]) <;> (try simp only [bools] at h) <;> (try simp -dsimp -implicitDefEqProofs only [go_sem, seval, h3', hs])
    · exact hno (by simp [fewS]; omega)
    · have e1 : (s.guard.size : Int) ≤ 30 := by assumption
      refine csplit (fun h => ?_) (fun h => ?_) <;> (try rw [h]) <;> (try simp only [bools] at h) <;> (try simp -dsimp -implicitDefEqProofs only [go_sem, seval, h3'])
      · exact hno (by simp [fewS]; omega)
      · have e2 : (s.set.length : Int) ≤ 8 := by omega
        refine loopY 36028792723996692 s.set.length (fun k f' => (f' 4).v = vi k ∧ s.set.all fewA = (s.set.drop k).all fewA) rfl rfl ⟨by simp -dsimp -implicitDefEqProofs only [go_sem, seval], rfl⟩ ?_
        rintro k f' u' kk' bb' hk ⟨h4, hall2⟩
        have hw' := wrapS k (by omega)
        simp -dsimp -implicitDefEqProofs only [go_sem, seval, h3', h4, hs]
        refine csplit (fun h => ?_) (fun h => ?_) <;> (try rw [h]) <;> (try simp only [bools] at h) <;> (try simp -dsimp -implicitDefEqProofs only [go_sem, seval, h3', h4])
        · obtain ⟨a, ha, ham⟩ := get_of ‹k < s.set.length›
          have hga := small_den a.to 30 (by omega)
          simp -dsimp -implicitDefEqProofs only [go_sem, seval, h3', h4, hs, ha, hga]
          refine csplit (fun h => ?_) (fun h => ?_) <;> (try rw [h]) <;> (try simp only [bools] at h) <;> (try simp -dsimp -implicitDefEqProofs only [go_sem, seval, h3', h4])
          · exact hno (by rw [fewS, hall2, all_stop ha (by simp [fewA]; omega)]; simp)
          · refine ⟨by omega, by simp -dsimp -implicitDefEqProofs only [go_sem, seval, hw'], ?_⟩
            rw [hall2, all_step ha (by simp [fewA]; omega)]
        · have : k = s.set.length := by omega
          subst this
          rw [all_end] at hall2
          refine ⟨by omega, by simp -dsimp -implicitDefEqProofs only [go_sem, seval, hw], ?_⟩
          rw [hall, all_step hs (by rw [fewS, hall2]; simp; omega)]
  · have : i = x.steps.length := by omega
    subst this
    rw [all_end] at hall
    clear h3' hw
    refine loopY 590259781561686687780 x.asserts.length (fun i f => (f 5).v = vi i ∧ x.asserts.all few60 = (x.asserts.drop i).all few60) rfl rfl ⟨by simp -dsimp -implicitDefEqProofs only [go_sem, seval], rfl⟩ ?_
    rintro i f u kk bb hi ⟨h5, hall2⟩
    have hw := wrapS i (by omega)
    simp -dsimp -implicitDefEqProofs only [go_sem, seval, h5]
    refine csplit (fun h => ?_) (fun h => ?_) <;> (try rw [h]) <;> (try simp only [bools] at h) <;> (try simp -dsimp -implicitDefEqProofs only [go_sem, seval, h5])
    · obtain ⟨e, he, _⟩ := get_of ‹i < x.asserts.length›
      have hg := small_den e 60 (by omega)
      simp -dsimp -implicitDefEqProofs only [go_sem, seval, h5, he, hg]
      refine csplit (fun h => ?_) (fun h => ?_) <;> (try rw [h]) <;> (try simp only [bools] at h) <;> (try simp -dsimp -implicitDefEqProofs only [go_sem, seval, h5])
      · rw [fewT, hall, hall2, all_stop he (by simp [few60]; omega)]; rfl
      · refine ⟨by omega, by simp -dsimp -implicitDefEqProofs only [go_sem, seval, hw], ?_⟩
        rw [hall2, all_step he (by simp [few60]; omega)]
    · have : i = x.asserts.length := by omega
      subst this
      rw [all_end] at hall2
      clear h5 hw
      refine loopY 19807040038270274039680335940 x.loops.length (fun i f => (f 6).v = vi i ∧ x.loops.all fewL = (x.loops.drop i).all fewL) rfl rfl ⟨by simp -dsimp -implicitDefEqProofs only [go_sem, seval], rfl⟩ ?_
      rintro i f u kk bb hi ⟨h6, hall3⟩
      have hw := wrapS i (by omega)
      simp -dsimp -implicitDefEqProofs only [go_sem, seval, h6]
      refine csplit (fun h => ?_) (fun h => ?_) <;> (try rw [h]) <;> (try simp only [bools] at h) <;> (try simp -dsimp -implicitDefEqProofs only [go_sem, seval, h6])
      · obtain ⟨l, hl, _⟩ := get_of ‹i < x.loops.length›
        have hg := small_den l.variant 30 (by omega)
        have hno : fewL l = false → false = fewT x := fun h0 => by rw [fewT, hall, hall2, hall3, all_stop hl h0]; rfl
        simp -dsimp -implicitDefEqProofs only [go_sem, seval, h6, hl, hg]
        refine csplit (fun h => ?_) (fun h => ?_) <;> (try rw [h]) <;> (try simp only [bools] at h) <;> (try simp -dsimp -implicitDefEqProofs only [go_sem, seval, h6, hl])
        · exact hno (by simp [fewL]; omega)
        · have e1 : (l.variant.size : Int) ≤ 30 := by assumption
          refine csplit (fun h => ?_) (fun h => ?_) <;> (try rw [h]) <;> (try simp only [bools] at h) <;> (try simp -dsimp -implicitDefEqProofs only [go_sem, seval, h6])
          · exact hno (by simp [fewL]; omega)
          · refine ⟨by omega, by simp -dsimp -implicitDefEqProofs only [go_sem, seval, hw], ?_⟩
            rw [hall3, all_step hl (by simp [fewL]; omega)]
      · have : i = x.loops.length := by omega
        subst this
        rw [all_end] at hall3
        rw [fewT, hall, hall2, hall3]; rfl
def fewGo : Int → List Thread → Bool
  | _, [] => true
  | n, x :: r => if n + x.steps.length > 24 ∨ (x.asserts.length : Int) > 48 ∨ (x.modules.length : Int) > 48 ∨ (x.loops.length : Int) > 8 ∨ fewT x = false then false else fewGo (n + x.steps.length) r
def fewC (m : Contract) : Bool := few60 m.rely && few60 m.guar && decide ((m.frame.length : Int) ≤ 32)
def fewM (p : Prog) : Bool :=
  decide ((p.cells.length : Int) ≤ 32) && decide ((p.threads.length : Int) ≤ 4) && decide ((p.modules.length : Int) ≤ 6) && decide ((p.locks.length : Int) ≤ 4) &&
    fewGo 0 p.threads && p.modules.all fewC && p.locks.all fun l => few60 l.inv
theorem fewM_den (p : Prog) (hb : ∀ x ∈ p.threads, x.steps.length < 2 ^ 50) : Den Γ G 9 [(.agg [.t (.sl ((p).cells.map (Cell.enc))), .t (.sl ((p).modules.map (Contract.enc))), .t (.sl ((p).locks.map (Lock.enc))), .t (.sl ((p).threads.map (Thread.enc)))])] = some (vb (fewM p)) := by
  (refine den_ofY Γ9 rfl ?_; dsimp only [f9])
  simp -dsimp -implicitDefEqProofs only [go_sem, seval]
  by_cases hl : (p.cells.length : Int) ≤ 32 ∧ (p.threads.length : Int) ≤ 4 ∧ (p.modules.length : Int) ≤ 6 ∧ (p.locks.length : Int) ≤ 4
  · obtain ⟨l1, l2, l3, l4⟩ := hl
    have g1 : ¬ (p.cells.length : Int) > 32 := by omega
    have g2 : ¬ (p.threads.length : Int) > 4 := by omega
    have g3 : ¬ (p.modules.length : Int) > 6 := by omega
    have g4 : ¬ (p.locks.length : Int) > 4 := by omega
    have hF : fewM p = (fewGo 0 p.threads && p.modules.all fewC && p.locks.all fun l => few60 l.inv) := by simp [fewM, l1, l2, l3, l4]
    simp -dsimp -implicitDefEqProofs only [go_sem, seval, g1, g2, g3, g4]
    refine loopY 4722366482868571471932 p.threads.length (fun i f => (f 4).v = vi i ∧ ∃ n : Int, 0 ≤ n ∧ n ≤ 24 ∧ (f 3).v = vi n ∧ fewGo 0 p.threads = fewGo n (p.threads.drop i)) rfl rfl ⟨by simp -dsimp -implicitDefEqProofs only [go_sem, seval], 0, by omega, by omega, by simp -dsimp -implicitDefEqProofs only [go_sem, seval], rfl⟩ ?_
    rintro i f u kk bb hi ⟨h4, n, n0, n1, h3, hgo⟩
    have hw := wrapS i (by omega)
    simp -dsimp -implicitDefEqProofs only [go_sem, seval, h4]
    refine csplit (fun h => ?_) (fun h => ?_) <;> (try rw [h]) <;> (try simp only [bools] at h) <;> (try simp -dsimp -implicitDefEqProofs only [go_sem, seval, h4])
    · obtain ⟨x, hx, hxm⟩ := get_of ‹i < p.threads.length›
      have hsl := hb x hxm
      have hwn : IntKind.i64.wrap (n + (x.steps.length : Int)) = n + x.steps.length := wrap64 (by omega)
      rw [drop_of hx, fewGo] at hgo
      simp -dsimp -implicitDefEqProofs only [go_sem, seval, h4, h3, hx, hwn]
      by_cases hbad : n + x.steps.length > 24 ∨ (x.asserts.length : Int) > 48 ∨ (x.modules.length : Int) > 48 ∨ (x.loops.length : Int) > 8
      · rw [if_pos (by rcases hbad with h | h | h | h <;> simp [h])] at hgo
        rw [hF, hgo, Bool.false_and, Bool.false_and]
        repeat' (refine csplit (fun h => ?_) (fun h => ?_) <;> (try rw [h]) <;> (try simp only [bools] at h) <;> (try simp -dsimp -implicitDefEqProofs only [go_sem, seval, h4]))
        all_goals (exfalso; omega)
      · have k1 : ¬ n + (x.steps.length : Int) > 24 := by omega
        have k2 : ¬ (x.asserts.length : Int) > 48 := by omega
        have k3 : ¬ (x.modules.length : Int) > 48 := by omega
        have k4 : ¬ (x.loops.length : Int) > 8 := by omega
        have hfw := few_den x (by omega) (by omega) (by omega)
        simp -dsimp -implicitDefEqProofs only [go_sem, seval, k1, k2, k3, k4, hfw]
        refine csplit (fun h => ?_) (fun h => ?_) <;> (try rw [h]) <;> (try simp only [bools] at h) <;> (try simp -dsimp -implicitDefEqProofs only [go_sem, seval, h4])
        · rw [if_pos (by simp [h])] at hgo
          rw [hF, hgo, Bool.false_and, Bool.false_and]
        · rw [if_neg (by simp [h]; omega)] at hgo
          exact ⟨by omega, by simp -dsimp -implicitDefEqProofs only [go_sem, seval, hw], n + x.steps.length, by omega, by omega, by simp -dsimp -implicitDefEqProofs only [go_sem, seval], hgo⟩
    · have : i = p.threads.length := by omega
      subst this
      rw [List.drop_length, fewGo] at hgo
      rw [hgo, Bool.true_and] at hF
      clear h4 hw h3 hgo
      refine loopY 162259276824490996908708365074500 p.modules.length (fun i f => (f 6).v = vi i ∧ p.modules.all fewC = (p.modules.drop i).all fewC) rfl rfl ⟨by simp -dsimp -implicitDefEqProofs only [go_sem, seval], rfl⟩ ?_
      rintro i f u kk bb hi ⟨h6, hall⟩
      have hw := wrapS i (by omega)
      simp -dsimp -implicitDefEqProofs only [go_sem, seval, h6]
      refine csplit (fun h => ?_) (fun h => ?_) <;> (try rw [h]) <;> (try simp only [bools] at h) <;> (try simp -dsimp -implicitDefEqProofs only [go_sem, seval, h6])
      · obtain ⟨m, hm, _⟩ := get_of ‹i < p.modules.length›
        have hg1 := small_den m.rely 60 (by omega)
        have hg2 := small_den m.guar 60 (by omega)
        have hno : fewC m = false → false = fewM p := fun h0 => by rw [hF, hall, all_stop hm h0]; rfl
        simp -dsimp -implicitDefEqProofs only [go_sem, seval, h6, hm, hg1]
        refine csplit (fun h => ?_) (fun h => ?_) <;> (try rw [h]) <;> (try simp only [bools] at h) <;> (try simp -dsimp -implicitDefEqProofs only [go_sem, seval, h6, hm, hg2])
        · exact hno (by simp [fewC, few60]; omega)
        · have e1 : (m.rely.size : Int) ≤ 60 := by assumption
          refine csplit (fun h => ?_) (fun h => ?_) <;> (try rw [h]) <;> (try simp only [bools] at h) <;> (try simp -dsimp -implicitDefEqProofs only [go_sem, seval, h6, hm])
          · exact hno (by simp [fewC, few60]; omega)
          · have e2 : (m.guar.size : Int) ≤ 60 := by assumption
            refine csplit (fun h => ?_) (fun h => ?_) <;> (try rw [h]) <;> (try simp only [bools] at h) <;> (try simp -dsimp -implicitDefEqProofs only [go_sem, seval, h6])
            · exact hno (by simp [fewC, few60]; omega)
            · refine ⟨by omega, by simp -dsimp -implicitDefEqProofs only [go_sem, seval, hw], ?_⟩
              rw [hall, all_step hm (by simp [fewC, few60]; omega)]
      · have : i = p.modules.length := by omega
        subst this
        rw [all_end] at hall
        rw [hall, Bool.true_and] at hF
        clear h6 hw hall
        refine loopY 5316749723862834278251836663111090308 p.locks.length (fun i f => (f 7).v = vi i ∧ fewM p = (p.locks.drop i).all fun l => few60 l.inv) rfl rfl ⟨by simp -dsimp -implicitDefEqProofs only [go_sem, seval], hF⟩ ?_
        rintro i f u kk bb hi ⟨h7, hall⟩
        have hw := wrapS i (by omega)
        simp -dsimp -implicitDefEqProofs only [go_sem, seval, h7]
        refine csplit (fun h => ?_) (fun h => ?_) <;> (try rw [h]) <;> (try simp only [bools] at h) <;> (try simp -dsimp -implicitDefEqProofs only [go_sem, seval, h7])
        · obtain ⟨l, hl, _⟩ := get_of ‹i < p.locks.length›
          have hg1 := small_den l.inv 60 (by omega)
          simp -dsimp -implicitDefEqProofs only [go_sem, seval, h7, hl, hg1]
          refine csplit (fun h => ?_) (fun h => ?_) <;> (try rw [h]) <;> (try simp only [bools] at h) <;> (try simp -dsimp -implicitDefEqProofs only [go_sem, seval, h7])
          · rw [hall, all_stop hl (by simp [few60]; omega)]
          · refine ⟨by omega, by simp -dsimp -implicitDefEqProofs only [go_sem, seval, hw], ?_⟩
            rw [hall, all_step hl (by simp [few60]; omega)]
        · have : i = p.locks.length := by omega
          subst this
          rw [hall, all_end]
  · have hF : fewM p = false := by
      cases h : fewM p
      · rfl
      · exfalso
        simp only [fewM, Bool.and_eq_true, decide_eq_true_eq] at h
        omega
    rw [hF]
    repeat' (refine csplit (fun h => ?_) (fun h => ?_) <;> (try rw [h]) <;> (try simp only [bools] at h) <;> (try simp -dsimp -implicitDefEqProofs only [go_sem, seval]))
    all_goals (exfalso; omega)
end Rg
end
section
/- Rh: layer 11: the fixed program. No condition. -/
set_option linter.unusedSimpArgs false
set_option linter.unusedVariables false
namespace Rg
open Go
def exOne : Expr := .mk 1 1 1 []
def exampleM : Prog :=
  ⟨[⟨bs [77, 46, 120], 2, 1, -1, false, 0⟩, ⟨bs [116, 46, 114], 2, 0, 0, false, 0⟩],
   [⟨bs [77], bs [111], .mk 0 0 0 [], exOne, [0]⟩], [],
   [⟨bs [116], 3, [exOne, exOne, exOne], [0, 0, 0],
     [⟨2, 0, 1, exOne, [⟨1, .mk 2 2 0 []⟩], false, 0, 0⟩,
      ⟨4, 1, 2, .mk 12 1 0 [.mk 2 2 0 [], .mk 1 2 3 []], [⟨0, .mk 8 2 0 [.mk 2 2 0 [], .mk 1 2 1 []]⟩], false, 0, 0⟩], [], false⟩]⟩
theorem example_den : Den Γ G 35 [] = some (.agg [.t (.sl ((exampleM).cells.map (Cell.enc))), .t (.sl ((exampleM).modules.map (Contract.enc))), .t (.sl ((exampleM).locks.map (Lock.enc))), .t (.sl ((exampleM).threads.map (Thread.enc)))]) := by
  (refine den_ofY Γ35 rfl ?_; dsimp only [f35])
  have c1 := const_den 1 1
  have c2 := const_den 3 2
  have c3 := const_den 1 2
  have c4 := cell_den 0 2
  have c5 := two_den 12 1 (.mk 2 2 0 []) (.mk 1 2 3 [])
  have c6 := two_den 8 2 (.mk 2 2 0 []) (.mk 1 2 1 [])
  simp only [go_sem, List.map_cons, List.map_nil] at c1 c2 c3 c4 c5 c6
  simp -dsimp -implicitDefEqProofs only [go_sem, seval, c1, c2, c3, c4, c5, c6]
  exact ⟨rfl, rfl, rfl, rfl⟩
end Rg
end
section
-- FULL
/- Rh: layer 11: the fixed program's run (head). No condition. -/
set_option linter.unusedSimpArgs false
set_option linter.unusedVariables false
namespace Rg
open Go
theorem ex_sane : exampleM.sane := by
  constructor <;> decide +kernel
def exC (a b c : Int) : Config := ⟨[a, b], [c], [[]]⟩
theorem exC_sane (a b c : Int) : (exC a b c).sane := ⟨by simp [exC], by simp [exC], by simp [exC]⟩
theorem ex_start : startM exampleM = exC 1 0 0 := by decide +kernel
theorem ex_en : enabledL exampleM (exC 1 0 0) = [⟨0, 0, 0⟩] := by decide +kernel
theorem ex_n1 : nextM exampleM (exC 1 0 0) ⟨0, 0, 0⟩ = (exC 1 1 1, 0) := by decide +kernel
theorem ex_n2 : nextM exampleM (exC 1 1 1) ⟨0, 1, 0⟩ = (exC 2 1 2, 0) := by decide +kernel
theorem ex_n3 : nextM exampleM (exC 1 1 1) ⟨0, 0, 0⟩ = (zeroC, 110) := by decide +kernel
theorem ex_d1 : doneM exampleM (exC 1 0 0) = false := by decide +kernel
theorem ex_d2 : doneM exampleM (exC 2 1 2) = true := by decide +kernel
theorem head_den : Den Γ G 8 [] = some (vb true) := by
  (refine den_ofY Γ8 rfl ?_; dsimp only [f8])
  have a1 := startP_den exampleM ex_sane
  have a2 := enabledPL_den exampleM ex_sane _ (exC_sane 1 0 0)
  have a3 := nextP_den exampleM ex_sane _ (exC_sane 1 0 0) ⟨0, 0, 0⟩
  have a4 := nextP_den exampleM ex_sane _ (exC_sane 1 1 1) ⟨0, 1, 0⟩
  have a5 := nextP_den exampleM ex_sane _ (exC_sane 1 1 1) ⟨0, 0, 0⟩
  have a6 := doneP_den exampleM ex_sane _ (exC_sane 1 0 0)
  have a7 := doneP_den exampleM ex_sane _ (exC_sane 2 1 2)
  have s1 : Den Γ G 34 [.t (ints [1, 0]), .t (.sl [[.int .i64 1], [.int .i64 0]])] = some (vb true) := (sameInts_den [1, 0] [1, 0] (by decide)).trans rfl
  have s2 : Den Γ G 34 [.t (ints [1, 1]), .t (.sl [[.int .i64 1], [.int .i64 1]])] = some (vb true) := (sameInts_den [1, 1] [1, 1] (by decide)).trans rfl
  have s3 : Den Γ G 34 [.t (ints [2, 1]), .t (.sl [[.int .i64 2], [.int .i64 1]])] = some (vb true) := (sameInts_den [2, 1] [2, 1] (by decide)).trans rfl
  have s4 : Den Γ G 34 [.t (ints [2]), .t (.sl [[.int .i64 2]])] = some (vb true) := (sameInts_den [2] [2] (by decide)).trans rfl
  rw [ex_start] at a1
  rw [ex_en] at a2
  rw [ex_n1] at a3
  rw [ex_n2] at a4
  rw [ex_n3] at a5
  rw [ex_d1] at a6
  rw [ex_d2] at a7
  simp only [go_sem, exC, zeroC, List.map_cons, List.map_nil] at a1 a2 a3 a4 a5 a6 a7
  simp -dsimp -implicitDefEqProofs [go_sem, example_den, a1, a2, a3, a4, a5, a6, a7, s1, s2, s3, s4]
end Rg
end
section
-- FULL
/- Rh: layer 11: small cases. No condition. -/
set_option linter.unusedSimpArgs false
set_option linter.unusedVariables false
namespace Rg
open Go
/-- The strings and lists of a program that are in memory. -/
structure Prog.lite (p : Prog) : Prop where
  steps : ∀ x ∈ p.threads, x.steps.length < 2 ^ 50
  cname : ∀ c ∈ p.cells, c.name.size < 2 ^ 50
  mname : ∀ m ∈ p.modules, m.name.size < 2 ^ 50 ∧ m.owner.size < 2 ^ 50
  tname : ∀ t ∈ p.threads, t.name.size < 2 ^ 50
theorem fewGo_mem {l : List Thread} : ∀ {n : Int}, fewGo n l = true → 0 ≤ n → ∀ x ∈ l, x.steps.length ≤ 24 ∧ x.asserts.length ≤ 48 ∧ x.modules.length ≤ 48 ∧ x.loops.length ≤ 8 ∧ fewT x = true := by
  induction l with
  | nil => intro n _ _ x hx; simp at hx
  | cons y r ih =>
    intro n h hn x hx
    rw [fewGo] at h
    split at h
    · simp at h
    · rename_i h0
      simp only [not_or, Bool.not_eq_false] at h0
      rcases List.mem_cons.1 hx with rfl | hx
      · refine ⟨by omega, by omega, by omega, by omega, h0.2.2.2.2⟩
      · exact ih h (by omega) x hx
theorem few_sane {p : Prog} (hl : p.lite) (h : fewM p = true) : p.sane := by
  simp only [fewM, Bool.and_eq_true, decide_eq_true_eq, List.all_eq_true] at h
  obtain ⟨⟨⟨⟨⟨⟨h1, h2⟩, h3⟩, h4⟩, h5⟩, h6⟩, h7⟩ := h
  have ht := fewGo_mem h5 (by omega)
  refine ⟨by omega, by omega, by omega, by omega, hl.cname, ?_, ?_, ?_, ?_⟩
  · intro m hm
    have := h6 m hm
    simp only [fewC, Bool.and_eq_true, decide_eq_true_eq] at this
    exact ⟨(hl.mname m hm).1, (hl.mname m hm).2, by omega⟩
  · intro t hm
    obtain ⟨a, b, c, d, _⟩ := ht t hm
    exact ⟨hl.tname t hm, by omega, by omega, by omega, by omega⟩
  · intro t hm s hs
    obtain ⟨_, _, _, _, e⟩ := ht t hm
    simp only [fewT, Bool.and_eq_true, List.all_eq_true, fewS, decide_eq_true_eq] at e
    have := e.1.1 s hs
    omega
  · intro t hm l hll
    obtain ⟨_, _, _, _, e⟩ := ht t hm
    simp only [fewT, Bool.and_eq_true, List.all_eq_true, fewL, decide_eq_true_eq] at e
    have := e.2 l hll
    omega
def goodM (p : Prog) : Bool := fewM p && formedM p
theorem good_den (p : Prog) (hl : p.lite) : Den Γ G 16 [(.agg [.t (.sl ((p).cells.map (Cell.enc))), .t (.sl ((p).modules.map (Contract.enc))), .t (.sl ((p).locks.map (Lock.enc))), .t (.sl ((p).threads.map (Thread.enc)))])] = some (vb (goodM p)) := by
  (refine den_ofY Γ16 rfl ?_; dsimp only [f16])
  have h1 := fewM_den p hl.steps
  simp -dsimp -implicitDefEqProofs [go_sem, h1]
  cases hf : fewM p
  · simp -dsimp -implicitDefEqProofs [go_sem, goodM, hf]
  · have h2 := formedR_den p (few_sane hl hf)
    simp -dsimp -implicitDefEqProofs [go_sem, goodM, hf, h2]
def smallB (b : List Entry) : Bool := decide ((b.length : Int) ≤ 8)
def smallM (c : Config) (picks : List Int) : Bool :=
  decide ((c.mem.length : Int) ≤ 40) && decide ((c.at_.length : Int) ≤ 8) && decide ((c.buf.length : Int) ≤ 8) && decide ((picks.length : Int) ≤ 40) && c.buf.all smallB
theorem smallC_den (c : Config) (picks : List Int) : Den Γ G 10 [(.agg [.t (ints (c).mem), .t (ints (c).at_), .t (.sl ((c).buf.map (fun b => [.sl (b.map Entry.enc)])))]), .t (bytesT picks)] = some (vb (smallM c picks)) := by
  (refine den_ofY Γ10 rfl ?_; dsimp only [f10])
  have hlb : (picks.map fun n => [T.int .u8 n]).length = picks.length := by simp
  simp -dsimp -implicitDefEqProofs [go_sem]
  by_cases hl : (c.mem.length : Int) ≤ 40 ∧ (c.at_.length : Int) ≤ 8 ∧ (c.buf.length : Int) ≤ 8 ∧ (picks.length : Int) ≤ 40
  · obtain ⟨l1, l2, l3, l4⟩ := hl
    have g1 : ¬ 40 < (c.mem.length : Int) := by omega
    have g2 : ¬ 8 < (c.at_.length : Int) := by omega
    have g3 : ¬ 8 < (c.buf.length : Int) := by omega
    have g4 : ¬ 40 < (picks.length : Int) := by omega
    have hF : smallM c picks = c.buf.all smallB := by simp [smallM, l1, l2, l3, l4]
    simp -dsimp -implicitDefEqProofs [go_sem, g1, g2, g3, g4]
    refine loopY 2198889037872 c.buf.length (fun i f => (f 5).v = vi i ∧ c.buf.all smallB = (c.buf.drop i).all smallB) rfl rfl ⟨by simp -dsimp -implicitDefEqProofs [go_sem], rfl⟩ ?_
    rintro i f u kk bb hi ⟨h5, hall⟩
    have hw := wrapS i (by omega)
    simp -dsimp -implicitDefEqProofs [go_sem, h5]
    refine csplit (fun h => ?_) (fun h => ?_) <;> (try rw [h]) <;> (try simp only [bools] at h) <;> (try simp -dsimp -implicitDefEqProofs [go_sem, h5])
    · obtain ⟨b, hb, _⟩ := get_of ‹i < c.buf.length›
      simp -dsimp -implicitDefEqProofs [go_sem, h5, hb]
      refine csplit (fun h => ?_) (fun h => ?_) <;> (try rw [h]) <;> (try simp only [bools] at h) <;> (try simp -dsimp -implicitDefEqProofs [go_sem, h5])
      · rw [hF, hall, all_stop hb (by simp [smallB]; omega)]
      · refine ⟨by omega, by simp -dsimp -implicitDefEqProofs [go_sem, hw], ?_⟩
        rw [hall, all_step hb (by simp [smallB]; omega)]
    · have : i = c.buf.length := by omega
      subst this
      rw [all_end] at hall
      rw [hF, hall]
  · have hF : smallM c picks = false := by
      rw [← Bool.not_eq_true]
      simp only [smallM, Bool.and_eq_true, decide_eq_true_eq]
      omega
    rw [hF]
    repeat' (refine csplit (fun h => ?_) (fun h => ?_) <;> (try rw [h]) <;> (try simp only [bools] at h) <;> (try simp -dsimp -implicitDefEqProofs [go_sem]))
    all_goals (exfalso; omega)
end Rg
end
section
/- Rh: layer 11: machine and reference agree at one configuration. No condition. -/
set_option linter.unusedSimpArgs false
set_option linter.unusedVariables false
namespace Rg
open Go
theorem rowsC_eq (l : List Choice) : (l.map Choice.enc).map (fun x => x.map V.t) = rowsC l := rfl
theorem next_buf {p : Prog} {c : Config} {x : Choice} : ∀ l ∈ (nextM p c x).1.buf, entriesSane l := by
  have hz : ∀ (b : Config), (∀ l ∈ b.buf, l = []) → ∀ l ∈ b.buf, entriesSane l := fun b h l hl => by
    rw [h l hl]; exact ⟨by simp, by simp⟩
  apply hz
  unfold nextM execM execS zeroC
  repeat' split
  all_goals simp
theorem sameP_den (p : Prog) (hs : p.sane) (c : Config) (hcs : c.sane) (x : Choice) : Den Γ G 14 [(.agg [.t (.sl ((p).cells.map (Cell.enc))), .t (.sl ((p).modules.map (Contract.enc))), .t (.sl ((p).locks.map (Lock.enc))), .t (.sl ((p).threads.map (Thread.enc)))]), (.agg [.t (ints (c).mem), .t (ints (c).at_), .t (.sl ((c).buf.map (fun b => [.sl (b.map Entry.enc)])))]), (.agg [.t (ti (x).thread), .t (ti (x).step), .t (ti (x).cell)])] = some (vb true) := by
  (refine den_ofY Γ14 rfl ?_; dsimp only [f14])
  have h1 := enabledPL_den p hs c hcs
  have h2 := enabledRL_den p hs c hcs
  have hel := enabled_len (p := p) c
  have h3 := sameChoices_den (enabledL p c) (enabledL p c) (by omega)
  have h4 := doneP_den p hs c hcs
  have h5 := doneR_den p hs c hcs
  rw [decide_eq_true rfl] at h3
  have hap : rowsC (enabledL p c) ++ [[vi x.thread, vi x.step, vi x.cell]] = rowsC (enabledL p c ++ [x]) := (rowsC_app _ _).symm
  have hdd : ((doneM p c == doneM p c) != true) = false := by simp
  simp -dsimp -implicitDefEqProofs only [go_sem, seval, h1, h2, h3, h4, h5, hdd, rowsC_eq]
  refine putA_appM (x := 26) (by simp -dsimp -implicitDefEqProofs only [go_sem, seval]) rfl (by decide) (by decide) (by rw [rowsC_len]; simp; omega) (by decide) (rowsC_all _) (by decide) ?_
  intro k hp hk hh hlo hhi
  rw [List.nil_append] at hh ⊢
  have hk29 : ¬ k = 29 := by omega
  simp -dsimp -implicitDefEqProofs only [go_sem, seval, hh, rowsC_eq, hk29, Nat.le_refl, List.take_length]
  refine putA_appM (x := 29) (by simp -dsimp -implicitDefEqProofs only [go_sem, seval, hh, hk29]) rfl (by omega) (by decide) (by rw [rowsC_len]; simp; omega) (by decide) rfl (rowsC_all _) ?_
  intro k2 hp2 hk2 hh2 _ _
  rw [hap] at hh2 ⊢
  rw [rowsC_len]
  have hll : (enabledL p c ++ [x]).length ≤ 257 := by simp; omega
  generalize enabledL p c ++ [x] = l at *
  simp -dsimp -implicitDefEqProofs only [go_sem, seval]
  refine loopYH 18889465930928825056832 l.length (fun i f h n => (f 9).v = vi i ∧ h k2 = some (.rows 3 (rowsC l) false)) rfl ⟨by simp -dsimp -implicitDefEqProofs only [go_sem, seval], by simp -dsimp -implicitDefEqProofs only [go_sem, seval, hh2]⟩ ?_
  clear hh2
  rintro i f u hp3 n bs hi ⟨h9, hh2⟩
  have hwi := wrapS i (by omega)
  simp -dsimp -implicitDefEqProofs only [go_sem, seval, h9, hh2, rowsC_len]
  refine csplit (fun h => ?_) (fun h => ?_) <;> (try rw [h]) <;> (try simp only [bools] at h) <;> (try simp -dsimp -implicitDefEqProofs only [go_sem, seval, h9, hh2, rowsC_len])
  · have hi1 : i < l.length := by omega
    obtain ⟨y, hy, hm⟩ := get_of hi1
    have hrow : (rowsC l)[i]? = some [vi y.thread, vi y.step, vi y.cell] := by simp [rowsC, hy, Choice.enc]
    have n1 := nextP_den p hs c hcs y
    have n2 := nextR_den p hs c hcs y
    have n3 := same_den (nextM p c y).1 (nextM p c y).1 (next_sane hs hcs y) next_buf
    have n4 : decide (¬ (nextM p c y).2 = (nextM p c y).2) = false := by simp
    rw [decide_eq_true rfl] at n3
    simp -dsimp -implicitDefEqProofs only [go_sem, seval, h9, hh2, hrow, hi1, n1, n2, n3, n4, rowsC_len]
    exact ⟨by omega, by simp -dsimp -implicitDefEqProofs only [go_sem, seval, hwi], by simp -dsimp -implicitDefEqProofs only [go_sem, seval, hh2]⟩
end Rg
end
