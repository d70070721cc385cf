/- Part of the proof of the laws of the package relyguardlaw11: an abstract machine for the program's functions, what they compute, and that the machine is the program's. No condition. (H11n H11o H11p H11q H11r H11s H11t H12a H12b H12c H12d H13a H13b H14a H14b) -/
import Derived.Test.YtnfmmdkonagnaaaGreatDoorPartAX
section
/- Rh: layer 11: small programs. No condition. -/
set_option linter.unusedSimpArgs false
set_option linter.unusedVariables false
namespace Rg
open Go
def fewA (a : Assign) : Bool := decide ((a.to.size : Int) ≤ 30)
def fewS (s : Step) : Bool := decide ((s.guard.size : Int) ≤ 30) && decide ((s.set.length : Int) ≤ 8) && s.set.all fewA
def fewL (l : Loop) : Bool := decide ((l.variant.size : Int) ≤ 30) && decide ((l.body.length : Int) ≤ 48)
def few60 (e : Expr) : Bool := decide ((e.size : Int) ≤ 60)
def fewT (x : Thread) : Bool := x.steps.all fewS && x.asserts.all few60 && x.loops.all fewL
theorem few_den (x : Thread) (h1 : x.steps.length < 2 ^ 40) (h2 : x.asserts.length < 2 ^ 40) (h3 : x.loops.length < 2 ^ 40) : Den Γ G 36 [(.agg [.t (.str (x).name), .t (ti (x).points), .t (.sl ((x).asserts.map Expr.enc)), .t (ints (x).modules), .t (.sl ((x).steps.map Step.enc)), .t (.sl ((x).loops.map Loop.enc)), .t (tb (x).asleep)])] = some (vb (fewT x)) := by
  (refine den_ofY Γ36 rfl ?_; dsimp only [f36])
  simp -dsimp -implicitDefEqProofs only [go_sem, seval]
  refine loopY 36028797018963868 x.steps.length (fun i f => (f 3).v = vi i ∧ x.steps.all fewS = (x.steps.drop i).all fewS) rfl rfl ⟨by simp -dsimp -implicitDefEqProofs only [go_sem, seval], rfl⟩ ?_
  rintro i f u kk bb hi ⟨h3', hall⟩
  have hw := wrapS i (by omega)
  simp -dsimp -implicitDefEqProofs only [go_sem, seval, h3']
  refine csplit (fun h => ?_) (fun h => ?_) <;> (try rw [h]) <;> (try simp only [bools] at h) <;> (try simp -dsimp -implicitDefEqProofs only [go_sem, seval, h3'])
  · obtain ⟨s, hs, hsm⟩ := get_of ‹i < x.steps.length›
    have hg := small_den s.guard 30 (by omega)
    have hno : fewS s = false → false = fewT x := fun h0 => by rw [fewT, hall, all_stop hs h0]; rfl
    simp -dsimp -implicitDefEqProofs only [go_sem, seval, h3', hs, hg]
    refine csplit (fun h => ?_) (fun h => ?_) <;> (try rw [h]) <;> (try simp only [bools] at h) <;> (try simp -dsimp -implicitDefEqProofs only [go_sem, seval, h3', hs])
    · exact hno (by simp [fewS]; omega)
    · have e1 : (s.guard.size : Int) ≤ 30 := by assumption
      refine csplit (fun h => ?_) (fun h => ?_) <;> (try rw [h]) <;> (try simp only [bools] at h) <;> (try simp -dsimp -implicitDefEqProofs only [go_sem, seval, h3'])
      · exact hno (by simp [fewS]; omega)
      · have e2 : (s.set.length : Int) ≤ 8 := by omega
        refine loopY 36028792723996692 s.set.length (fun k f' => (f' 4).v = vi k ∧ s.set.all fewA = (s.set.drop k).all fewA) rfl rfl ⟨by simp -dsimp -implicitDefEqProofs only [go_sem, seval], rfl⟩ ?_
        rintro k f' u' kk' bb' hk ⟨h4, hall2⟩
        have hw' := wrapS k (by omega)
        simp -dsimp -implicitDefEqProofs only [go_sem, seval, h3', h4, hs]
        refine csplit (fun h => ?_) (fun h => ?_) <;> (try rw [h]) <;> (try simp only [bools] at h) <;> (try simp -dsimp -implicitDefEqProofs only [go_sem, seval, h3', h4])
        · obtain ⟨a, ha, ham⟩ := get_of ‹k < s.set.length›
          have hga := small_den a.to 30 (by omega)
          simp -dsimp -implicitDefEqProofs only [go_sem, seval, h3', h4, hs, ha, hga]
          refine csplit (fun h => ?_) (fun h => ?_) <;> (try rw [h]) <;> (try simp only [bools] at h) <;> (try simp -dsimp -implicitDefEqProofs only [go_sem, seval, h3', h4])
          · exact hno (by rw [fewS, hall2, all_stop ha (by simp [fewA]; omega)]; simp)
          · refine ⟨by omega, by simp -dsimp -implicitDefEqProofs only [go_sem, seval, hw'], ?_⟩
            rw [hall2, all_step ha (by simp [fewA]; omega)]
        · have : k = s.set.length := by omega
          subst this
          rw [all_end] at hall2
          refine ⟨by omega, by simp -dsimp -implicitDefEqProofs only [go_sem, seval, hw], ?_⟩
          rw [hall, all_step hs (by rw [fewS, hall2]; simp; omega)]
  · have : i = x.steps.length := by omega
    subst this
    rw [all_end] at hall
    clear h3' hw
    refine loopY 590259781561686687780 x.asserts.length (fun i f => (f 5).v = vi i ∧ x.asserts.all few60 = (x.asserts.drop i).all few60) rfl rfl ⟨by simp -dsimp -implicitDefEqProofs only [go_sem, seval], rfl⟩ ?_
    rintro i f u kk bb hi ⟨h5, hall2⟩
    have hw := wrapS i (by omega)
    simp -dsimp -implicitDefEqProofs only [go_sem, seval, h5]
    refine csplit (fun h => ?_) (fun h => ?_) <;> (try rw [h]) <;> (try simp only [bools] at h) <;> (try simp -dsimp -implicitDefEqProofs only [go_sem, seval, h5])
    · obtain ⟨e, he, _⟩ := get_of ‹i < x.asserts.length›
      have hg := small_den e 60 (by omega)
      simp -dsimp -implicitDefEqProofs only [go_sem, seval, h5, he, hg]
      refine csplit (fun h => ?_) (fun h => ?_) <;> (try rw [h]) <;> (try simp only [bools] at h) <;> (try simp -dsimp -implicitDefEqProofs only [go_sem, seval, h5])
      · rw [fewT, hall, hall2, all_stop he (by simp [few60]; omega)]; rfl
      · refine ⟨by omega, by simp -dsimp -implicitDefEqProofs only [go_sem, seval, hw], ?_⟩
        rw [hall2, all_step he (by simp [few60]; omega)]
    · have : i = x.asserts.length := by omega
      subst this
      rw [all_end] at hall2
      clear h5 hw
      refine loopY 19807040038270274039680335940 x.loops.length (fun i f => (f 6).v = vi i ∧ x.loops.all fewL = (x.loops.drop i).all fewL) rfl rfl ⟨by simp -dsimp -implicitDefEqProofs only [go_sem, seval], rfl⟩ ?_
      rintro i f u kk bb hi ⟨h6, hall3⟩
      have hw := wrapS i (by omega)
      simp -dsimp -implicitDefEqProofs only [go_sem, seval, h6]
      refine csplit (fun h => ?_) (fun h => ?_) <;> (try rw [h]) <;> (try simp only [bools] at h) <;> (try simp -dsimp -implicitDefEqProofs only [go_sem, seval, h6])
      · obtain ⟨l, hl, _⟩ := get_of ‹i < x.loops.length›
        have hg := small_den l.variant 30 (by omega)
        have hno : fewL l = false → false = fewT x := fun h0 => by rw [fewT, hall, hall2, hall3, all_stop hl h0]; rfl
        simp -dsimp -implicitDefEqProofs only [go_sem, seval, h6, hl, hg]
        refine csplit (fun h => ?_) (fun h => ?_) <;> (try rw [h]) <;> (try simp only [bools] at h) <;> (try simp -dsimp -implicitDefEqProofs only [go_sem, seval, h6, hl])
        · exact hno (by simp [fewL]; omega)
        · have e1 : (l.variant.size : Int) ≤ 30 := by assumption
          refine csplit (fun h => ?_) (fun h => ?_) <;> (try rw [h]) <;> (try simp only [bools] at h) <;> (try simp -dsimp -implicitDefEqProofs only [go_sem, seval, h6])
          · exact hno (by simp [fewL]; omega)
          · refine ⟨by omega, by simp -dsimp -implicitDefEqProofs only [go_sem, seval, hw], ?_⟩
            rw [hall3, all_step hl (by simp [fewL]; omega)]
      · have : i = x.loops.length := by omega
        subst this
        rw [all_end] at hall3
        rw [fewT, hall, hall2, hall3]; rfl
def fewGo : Int → List Thread → Bool
  | _, [] => true
  | n, x :: r => if n + x.steps.length > 24 ∨ (x.asserts.length : Int) > 48 ∨ (x.modules.length : Int) > 48 ∨ (x.loops.length : Int) > 8 ∨ fewT x = false then false else fewGo (n + x.steps.length) r
def fewC (m : Contract) : Bool := few60 m.rely && few60 m.guar && decide ((m.frame.length : Int) ≤ 32)
def fewM (p : Prog) : Bool :=
  decide ((p.cells.length : Int) ≤ 32) && decide ((p.threads.length : Int) ≤ 4) && decide ((p.modules.length : Int) ≤ 6) && decide ((p.locks.length : Int) ≤ 4) &&
    fewGo 0 p.threads && p.modules.all fewC && p.locks.all fun l => few60 l.inv
theorem fewM_den (p : Prog) (hb : ∀ x ∈ p.threads, x.steps.length < 2 ^ 50) : Den Γ G 9 [(.agg [.t (.sl ((p).cells.map (Cell.enc))), .t (.sl ((p).modules.map (Contract.enc))), .t (.sl ((p).locks.map (Lock.enc))), .t (.sl ((p).threads.map (Thread.enc)))])] = some (vb (fewM p)) := by
  (refine den_ofY Γ9 rfl ?_; dsimp only [f9])
  simp -dsimp -implicitDefEqProofs only [go_sem, seval]
  by_cases hl : (p.cells.length : Int) ≤ 32 ∧ (p.threads.length : Int) ≤ 4 ∧ (p.modules.length : Int) ≤ 6 ∧ (p.locks.length : Int) ≤ 4
  · obtain ⟨l1, l2, l3, l4⟩ := hl
    have g1 : ¬ (p.cells.length : Int) > 32 := by omega
    have g2 : ¬ (p.threads.length : Int) > 4 := by omega
    have g3 : ¬ (p.modules.length : Int) > 6 := by omega
    have g4 : ¬ (p.locks.length : Int) > 4 := by omega
    have hF : fewM p = (fewGo 0 p.threads && p.modules.all fewC && p.locks.all fun l => few60 l.inv) := by simp [fewM, l1, l2, l3, l4]
    simp -dsimp -implicitDefEqProofs only [go_sem, seval, g1, g2, g3, g4]
    refine loopY 4722366482868571471932 p.threads.length (fun i f => (f 4).v = vi i ∧ ∃ n : Int, 0 ≤ n ∧ n ≤ 24 ∧ (f 3).v = vi n ∧ fewGo 0 p.threads = fewGo n (p.threads.drop i)) rfl rfl ⟨by simp -dsimp -implicitDefEqProofs only [go_sem, seval], 0, by omega, by omega, by simp -dsimp -implicitDefEqProofs only [go_sem, seval], rfl⟩ ?_
    rintro i f u kk bb hi ⟨h4, n, n0, n1, h3, hgo⟩
    have hw := wrapS i (by omega)
    simp -dsimp -implicitDefEqProofs only [go_sem, seval, h4]
    refine csplit (fun h => ?_) (fun h => ?_) <;> (try rw [h]) <;> (try simp only [bools] at h) <;> (try simp -dsimp -implicitDefEqProofs only [go_sem, seval, h4])
    · obtain ⟨x, hx, hxm⟩ := get_of ‹i < p.threads.length›
      have hsl := hb x hxm
      have hwn : IntKind.i64.wrap (n + (x.steps.length : Int)) = n + x.steps.length := wrap64 (by omega)
      rw [drop_of hx, fewGo] at hgo
      simp -dsimp -implicitDefEqProofs only [go_sem, seval, h4, h3, hx, hwn]
      by_cases hbad : n + x.steps.length > 24 ∨ (x.asserts.length : Int) > 48 ∨ (x.modules.length : Int) > 48 ∨ (x.loops.length : Int) > 8
      · rw [if_pos (by rcases hbad with h | h | h | h <;> simp [h])] at hgo
        rw [hF, hgo, Bool.false_and, Bool.false_and]
        repeat' (refine csplit (fun h => ?_) (fun h => ?_) <;> (try rw [h]) <;> (try simp only [bools] at h) <;> (try simp -dsimp -implicitDefEqProofs only [go_sem, seval, h4]))
        all_goals (exfalso; omega)
      · have k1 : ¬ n + (x.steps.length : Int) > 24 := by omega
        have k2 : ¬ (x.asserts.length : Int) > 48 := by omega
        have k3 : ¬ (x.modules.length : Int) > 48 := by omega
        have k4 : ¬ (x.loops.length : Int) > 8 := by omega
        have hfw := few_den x (by omega) (by omega) (by omega)
        simp -dsimp -implicitDefEqProofs only [go_sem, seval, k1, k2, k3, k4, hfw]
        refine csplit (fun h => ?_) (fun h => ?_) <;> (try rw [h]) <;> (try simp only [bools] at h) <;> (try simp -dsimp -implicitDefEqProofs only [go_sem, seval, h4])
        · rw [if_pos (by simp [h])] at hgo
          rw [hF, hgo, Bool.false_and, Bool.false_and]
        · rw [if_neg (by simp [h]; omega)] at hgo
          exact ⟨by omega, by simp -dsimp -implicitDefEqProofs only [go_sem, seval, hw], n + x.steps.length, by omega, by omega, by simp -dsimp -implicitDefEqProofs only [go_sem, seval], hgo⟩
    · have : i = p.threads.length := by omega
      subst this
      rw [List.drop_length, fewGo] at hgo
      rw [hgo, Bool.true_and] at hF
      clear h4 hw h3 hgo
      refine loopY 162259276824490996908708365074500 p.modules.length (fun i f => (f 6).v = vi i ∧ p.modules.all fewC = (p.modules.drop i).all fewC) rfl rfl ⟨by simp -dsimp -implicitDefEqProofs only [go_sem, seval], rfl⟩ ?_
      rintro i f u kk bb hi ⟨h6, hall⟩
      have hw := wrapS i (by omega)
      simp -dsimp -implicitDefEqProofs only [go_sem, seval, h6]
      refine csplit (fun h => ?_) (fun h => ?_) <;> (try rw [h]) <;> (try simp only [bools] at h) <;> (try simp -dsimp -implicitDefEqProofs only [go_sem, seval, h6])
      · obtain ⟨m, hm, _⟩ := get_of ‹i < p.modules.length›
        have hg1 := small_den m.rely 60 (by omega)
        have hg2 := small_den m.guar 60 (by omega)
        have hno : fewC m = false → false = fewM p := fun h0 => by rw [hF, hall, all_stop hm h0]; rfl
        simp -dsimp -implicitDefEqProofs only [go_sem, seval, h6, hm, hg1]
        refine csplit (fun h => ?_) (fun h => ?_) <;> (try rw [h]) <;> (try simp only [bools] at h) <;> (try simp -dsimp -implicitDefEqProofs only [go_sem, seval, h6, hm, hg2])
        · exact hno (by simp [fewC, few60]; omega)
        · have e1 : (m.rely.size : Int) ≤ 60 := by assumption
          refine csplit (fun h => ?_) (fun h => ?_) <;> (try rw [h]) <;> (try simp only [bools] at h) <;> (try simp -dsimp -implicitDefEqProofs only [go_sem, seval, h6, hm])
          · exact hno (by simp [fewC, few60]; omega)
          · have e2 : (m.guar.size : Int) ≤ 60 := by assumption
            refine csplit (fun h => ?_) (fun h => ?_) <;> (try rw [h]) <;> (try simp only [bools] at h) <;> (try simp -dsimp -implicitDefEqProofs only [go_sem, seval, h6])
            · exact hno (by simp [fewC, few60]; omega)
            · refine ⟨by omega, by simp -dsimp -implicitDefEqProofs only [go_sem, seval, hw], ?_⟩
              rw [hall, all_step hm (by simp [fewC, few60]; omega)]
      · have : i = p.modules.length := by omega
        subst this
        rw [all_end] at hall
        rw [hall, Bool.true_and] at hF
        clear h6 hw hall
        refine loopY 5316749723862834278251836663111090308 p.locks.length (fun i f => (f 7).v = vi i ∧ fewM p = (p.locks.drop i).all fun l => few60 l.inv) rfl rfl ⟨by simp -dsimp -implicitDefEqProofs only [go_sem, seval], hF⟩ ?_
        rintro i f u kk bb hi ⟨h7, hall⟩
        have hw := wrapS i (by omega)
        simp -dsimp -implicitDefEqProofs only [go_sem, seval, h7]
        refine csplit (fun h => ?_) (fun h => ?_) <;> (try rw [h]) <;> (try simp only [bools] at h) <;> (try simp -dsimp -implicitDefEqProofs only [go_sem, seval, h7])
        · obtain ⟨l, hl, _⟩ := get_of ‹i < p.locks.length›
          have hg1 := small_den l.inv 60 (by omega)
          simp -dsimp -implicitDefEqProofs only [go_sem, seval, h7, hl, hg1]
          refine csplit (fun h => ?_) (fun h => ?_) <;> (try rw [h]) <;> (try simp only [bools] at h) <;> (try simp -dsimp -implicitDefEqProofs only [go_sem, seval, h7])
          · rw [hall, all_stop hl (by simp [few60]; omega)]
          · refine ⟨by omega, by simp -dsimp -implicitDefEqProofs only [go_sem, seval, hw], ?_⟩
            rw [hall, all_step hl (by simp [few60]; omega)]
        · have : i = p.locks.length := by omega
          subst this
          rw [hall, all_end]
  · have hF : fewM p = false := by
      cases h : fewM p
      · rfl
      · exfalso
        simp only [fewM, Bool.and_eq_true, decide_eq_true_eq] at h
        omega
    rw [hF]
    repeat' (refine csplit (fun h => ?_) (fun h => ?_) <;> (try rw [h]) <;> (try simp only [bools] at h) <;> (try simp -dsimp -implicitDefEqProofs only [go_sem, seval]))
    all_goals (exfalso; omega)
end Rg
end
section
/- Rh: layer 11: the fixed program. No condition. -/
set_option linter.unusedSimpArgs false
set_option linter.unusedVariables false
namespace Rg
open Go
def exOne : Expr := .mk 1 1 1 []
def exampleM : Prog :=
  ⟨[⟨bs [77, 46, 120], 2, 1, -1, false, 0⟩, ⟨bs [116, 46, 114], 2, 0, 0, false, 0⟩],
   [⟨bs [77], bs [111], .mk 0 0 0 [], exOne, [0]⟩], [],
   [⟨bs [116], 3, [exOne, exOne, exOne], [0, 0, 0],
     [⟨2, 0, 1, exOne, [⟨1, .mk 2 2 0 []⟩], false, 0, 0⟩,
      ⟨4, 1, 2, .mk 12 1 0 [.mk 2 2 0 [], .mk 1 2 3 []], [⟨0, .mk 8 2 0 [.mk 2 2 0 [], .mk 1 2 1 []]⟩], false, 0, 0⟩], [], false⟩]⟩
theorem example_den : Den Γ G 35 [] = some (.agg [.t (.sl ((exampleM).cells.map (Cell.enc))), .t (.sl ((exampleM).modules.map (Contract.enc))), .t (.sl ((exampleM).locks.map (Lock.enc))), .t (.sl ((exampleM).threads.map (Thread.enc)))]) := by
  (refine den_ofY Γ35 rfl ?_; dsimp only [f35])
  have c1 := const_den 1 1
  have c2 := const_den 3 2
  have c3 := const_den 1 2
  have c4 := cell_den 0 2
  have c5 := two_den 12 1 (.mk 2 2 0 []) (.mk 1 2 3 [])
  have c6 := two_den 8 2 (.mk 2 2 0 []) (.mk 1 2 1 [])
  simp only [go_sem, List.map_cons, List.map_nil] at c1 c2 c3 c4 c5 c6
  simp -dsimp -implicitDefEqProofs only [go_sem, seval, c1, c2, c3, c4, c5, c6]
  exact ⟨rfl, rfl, rfl, rfl⟩
end Rg
end
section
-- FULL
/- Rh: layer 11: the fixed program's run (head). No condition. -/
set_option linter.unusedSimpArgs false
set_option linter.unusedVariables false
namespace Rg
open Go
theorem ex_sane : exampleM.sane := by
  constructor <;> decide +kernel
def exC (a b c : Int) : Config := ⟨[a, b], [c], [[]]⟩
theorem exC_sane (a b c : Int) : (exC a b c).sane := ⟨by simp [exC], by simp [exC], by simp [exC]⟩
theorem ex_start : startM exampleM = exC 1 0 0 := by decide +kernel
theorem ex_en : enabledL exampleM (exC 1 0 0) = [⟨0, 0, 0⟩] := by decide +kernel
theorem ex_n1 : nextM exampleM (exC 1 0 0) ⟨0, 0, 0⟩ = (exC 1 1 1, 0) := by decide +kernel
theorem ex_n2 : nextM exampleM (exC 1 1 1) ⟨0, 1, 0⟩ = (exC 2 1 2, 0) := by decide +kernel
theorem ex_n3 : nextM exampleM (exC 1 1 1) ⟨0, 0, 0⟩ = (zeroC, 110) := by decide +kernel
theorem ex_d1 : doneM exampleM (exC 1 0 0) = false := by decide +kernel
theorem ex_d2 : doneM exampleM (exC 2 1 2) = true := by decide +kernel
theorem head_den : Den Γ G 8 [] = some (vb true) := by
  (refine den_ofY Γ8 rfl ?_; dsimp only [f8])
  have a1 := startP_den exampleM ex_sane
  have a2 := enabledPL_den exampleM ex_sane _ (exC_sane 1 0 0)
  have a3 := nextP_den exampleM ex_sane _ (exC_sane 1 0 0) ⟨0, 0, 0⟩
  have a4 := nextP_den exampleM ex_sane _ (exC_sane 1 1 1) ⟨0, 1, 0⟩
  have a5 := nextP_den exampleM ex_sane _ (exC_sane 1 1 1) ⟨0, 0, 0⟩
  have a6 := doneP_den exampleM ex_sane _ (exC_sane 1 0 0)
  have a7 := doneP_den exampleM ex_sane _ (exC_sane 2 1 2)
  have s1 : Den Γ G 34 [.t (ints [1, 0]), .t (.sl [[.int .i64 1], [.int .i64 0]])] = some (vb true) := (sameInts_den [1, 0] [1, 0] (by decide)).trans rfl
  have s2 : Den Γ G 34 [.t (ints [1, 1]), .t (.sl [[.int .i64 1], [.int .i64 1]])] = some (vb true) := (sameInts_den [1, 1] [1, 1] (by decide)).trans rfl
  have s3 : Den Γ G 34 [.t (ints [2, 1]), .t (.sl [[.int .i64 2], [.int .i64 1]])] = some (vb true) := (sameInts_den [2, 1] [2, 1] (by decide)).trans rfl
  have s4 : Den Γ G 34 [.t (ints [2]), .t (.sl [[.int .i64 2]])] = some (vb true) := (sameInts_den [2] [2] (by decide)).trans rfl
  rw [ex_start] at a1
  rw [ex_en] at a2
  rw [ex_n1] at a3
  rw [ex_n2] at a4
  rw [ex_n3] at a5
  rw [ex_d1] at a6
  rw [ex_d2] at a7
  simp only [go_sem, exC, zeroC, List.map_cons, List.map_nil] at a1 a2 a3 a4 a5 a6 a7
  simp -dsimp -implicitDefEqProofs [go_sem, example_den, a1, a2, a3, a4, a5, a6, a7, s1, s2, s3, s4]
end Rg
end
section
-- FULL
/- Rh: layer 11: small cases. No condition. -/
set_option linter.unusedSimpArgs false
set_option linter.unusedVariables false
namespace Rg
open Go
/-- The strings and lists of a program that are in memory. -/
structure Prog.lite (p : Prog) : Prop where
  steps : ∀ x ∈ p.threads, x.steps.length < 2 ^ 50
  cname : ∀ c ∈ p.cells, c.name.size < 2 ^ 50
  mname : ∀ m ∈ p.modules, m.name.size < 2 ^ 50 ∧ m.owner.size < 2 ^ 50
  tname : ∀ t ∈ p.threads, t.name.size < 2 ^ 50
theorem fewGo_mem {l : List Thread} : ∀ {n : Int}, fewGo n l = true → 0 ≤ n → ∀ x ∈ l, x.steps.length ≤ 24 ∧ x.asserts.length ≤ 48 ∧ x.modules.length ≤ 48 ∧ x.loops.length ≤ 8 ∧ fewT x = true := by
  induction l with
  | nil => intro n _ _ x hx; simp at hx
  | cons y r ih =>
    intro n h hn x hx
    rw [fewGo] at h
    split at h
    · simp at h
    · rename_i h0
      simp only [not_or, Bool.not_eq_false] at h0
      rcases List.mem_cons.1 hx with rfl | hx
      · refine ⟨by omega, by omega, by omega, by omega, h0.2.2.2.2⟩
      · exact ih h (by omega) x hx
theorem few_sane {p : Prog} (hl : p.lite) (h : fewM p = true) : p.sane := by
  simp only [fewM, Bool.and_eq_true, decide_eq_true_eq, List.all_eq_true] at h
  obtain ⟨⟨⟨⟨⟨⟨h1, h2⟩, h3⟩, h4⟩, h5⟩, h6⟩, h7⟩ := h
  have ht := fewGo_mem h5 (by omega)
  refine ⟨by omega, by omega, by omega, by omega, hl.cname, ?_, ?_, ?_, ?_⟩
  · intro m hm
    have := h6 m hm
    simp only [fewC, Bool.and_eq_true, decide_eq_true_eq] at this
    exact ⟨(hl.mname m hm).1, (hl.mname m hm).2, by omega⟩
  · intro t hm
    obtain ⟨a, b, c, d, _⟩ := ht t hm
    exact ⟨hl.tname t hm, by omega, by omega, by omega, by omega⟩
  · intro t hm s hs
    obtain ⟨_, _, _, _, e⟩ := ht t hm
    simp only [fewT, Bool.and_eq_true, List.all_eq_true, fewS, decide_eq_true_eq] at e
    have := e.1.1 s hs
    omega
  · intro t hm l hll
    obtain ⟨_, _, _, _, e⟩ := ht t hm
    simp only [fewT, Bool.and_eq_true, List.all_eq_true, fewL, decide_eq_true_eq] at e
    have := e.2 l hll
    omega
def goodM (p : Prog) : Bool := fewM p && formedM p
theorem good_den (p : Prog) (hl : p.lite) : Den Γ G 16 [(.agg [.t (.sl ((p).cells.map (Cell.enc))), .t (.sl ((p).modules.map (Contract.enc))), .t (.sl ((p).locks.map (Lock.enc))), .t (.sl ((p).threads.map (Thread.enc)))])] = some (vb (goodM p)) := by
  (refine den_ofY Γ16 rfl ?_; dsimp only [f16])
  have h1 := fewM_den p hl.steps
  simp -dsimp -implicitDefEqProofs [go_sem, h1]
  cases hf : fewM p
  · simp -dsimp -implicitDefEqProofs [go_sem, goodM, hf]
  · have h2 := formedR_den p (few_sane hl hf)
    simp -dsimp -implicitDefEqProofs [go_sem, goodM, hf, h2]
end Rg
end
section
/- Rh: layer 11: machine and reference agree at one configuration. No condition. -/
set_option linter.unusedSimpArgs false
set_option linter.unusedVariables false
namespace Rg
open Go
end Rg
end
section
/- Rh: layer 11: the first law. No condition. -/
set_option linter.unusedSimpArgs false
set_option linter.unusedVariables false
namespace Rg
open Go
theorem walkGo_sane {p : Prog} (hs : p.sane) : ∀ (l : List Int) (c : Config), c.sane → (walkGo p c l).sane
  | [], c, h => h
  | k :: r, c, h => by
    rw [walkGo]
    split
    · exact h
    · exact walkGo_sane hs r _ (next_sane hs h _)
theorem walk_sane {p : Prog} (hs : p.sane) (l : List Int) : (walkM p l).sane := walkGo_sane hs l _ (start_sane hs)
end Rg
end
section
/- Rh: layer 11: configurations that are reached are configurations of the program. No condition. -/
set_option linter.unusedSimpArgs false
set_option linter.unusedVariables false
namespace Rg
open Go
/-- What a configuration of a program is. -/
structure IsC (p : Prog) (c : Config) : Prop where
  lm : c.mem.length = p.cells.length
  la : c.at_.length = p.threads.length
  lb : c.buf.length = p.threads.length
  mem : ∀ (i : Nat) (v : Int) (y : Cell), c.mem[i]? = some v → p.cells[i]? = some y → 0 ≤ v ∧ v < 2 ^ y.w.toNat
  at_ : ∀ (i : Nat) (a : Int) (x : Thread), c.at_[i]? = some a → p.threads[i]? = some x → -1 ≤ a ∧ a < x.points ∧ (a = -1 → x.asleep = true)
  buf : ∀ b ∈ c.buf, b = []
theorem zip_all {α β : Type} {l : List α} {m : List β} {f : α × β → Bool} : (l.zip m).all f = true ↔ ∀ (i : Nat) (a : α) (b : β), l[i]? = some a → m[i]? = some b → f (a, b) = true := by
  rw [List.all_eq_true]
  constructor
  · intro h i a b ha hb
    exact h _ (List.mem_of_getElem? (zip_get ha hb))
  · intro h q hq
    obtain ⟨i, hi⟩ := List.getElem?_of_mem hq
    rw [List.getElem?_zip_eq_some] at hi
    exact h i _ _ hi.1 hi.2
theorem is_iff {p : Prog} {c : Config} : isM p c = true ↔ IsC p c := by
  simp only [isM, fitsM, Bool.and_eq_true, decide_eq_true_eq, zip_all]
  simp only [cellFit, atFit, List.all_eq_true, Bool.and_eq_true, decide_eq_true_eq, Bool.not_eq_true', Bool.and_eq_false_iff, decide_eq_false_iff_not, Bool.not_eq_false', List.isEmpty_iff]
  constructor
  · rintro ⟨⟨⟨⟨⟨h1, h2⟩, h3⟩, h4⟩, h5⟩, h6⟩
    exact ⟨h1, h2, h5, h3, fun i a x ha hx => ⟨(h4 i a x ha hx).1.1, (h4 i a x ha hx).1.2, fun h0 => by
      rcases (h4 i a x ha hx).2 with h | h
      · exact absurd h0 h
      · exact h⟩, h6⟩
  · rintro ⟨h1, h2, h5, h3, h4, h6⟩
    refine ⟨⟨⟨⟨⟨h1, h2⟩, h3⟩, fun i a x ha hx => ⟨⟨(h4 i a x ha hx).1, (h4 i a x ha hx).2.1⟩, ?_⟩⟩, h5⟩, h6⟩
    by_cases h0 : a = -1
    · exact .inr ((h4 i a x ha hx).2.2 h0)
    · exact .inl h0
theorem start_is {p : Prog} (hf : formedM p = true) : isM p (startM p) = true := by
  rw [is_iff, startM, if_pos hf]
  refine ⟨by simp, by simp, by simp, ?_, ?_, ?_⟩
  · intro i v y hv hy
    simp only [List.getElem?_map, hy, Option.map_some, Option.some.injEq] at hv
    subst hv
    exact (formed_cell hf (List.mem_of_getElem? hy)).2.2
  · intro i a x ha hx
    simp only [List.getElem?_map, hx, Option.map_some, Option.some.injEq] at ha
    have := points_bound hf hx
    subst ha
    split
    · rename_i h; exact ⟨by omega, by omega, fun _ => h⟩
    · exact ⟨by omega, by omega, by omega⟩
  · intro b hb
    simp only [List.mem_map] at hb
    obtain ⟨_, _, rfl⟩ := hb
    rfl
theorem eval_bound (e : Expr) (old now : List Int) : 0 ≤ e.eval old now ∧ e.eval old now < 2 ^ e.w.toNat := by
  unfold Expr.eval
  split
  · rename_i h; exact ev_bound old now 40 e (formed_deep h)
  · exact ⟨by omega, pow2_pos _⟩
theorem write_at {p : Prog} {view : List Int} : ∀ {set : List Assign} {mem : List Int},
    (∀ a ∈ set, ∃ y, p.cells[a.cell.toNat]? = some y ∧ a.to.w = y.w) →
    (∀ (i : Nat) (v : Int) (y : Cell), mem[i]? = some v → p.cells[i]? = some y → 0 ≤ v ∧ v < 2 ^ y.w.toNat) →
    ∀ (i : Nat) (v : Int) (y : Cell), (writeM mem view set)[i]? = some v → p.cells[i]? = some y → 0 ≤ v ∧ v < 2 ^ y.w.toNat
  | [], mem, _, hm => hm
  | a :: r, mem, hw, hm => by
    have : writeM mem view (a :: r) = writeM (mem.set a.cell.toNat (a.to.eval view view)) view r := rfl
    rw [this]
    refine write_at (fun b hb => hw b (List.mem_cons_of_mem _ hb)) ?_
    intro i v y hv hy
    rw [List.getElem?_set] at hv
    split at hv
    · rename_i hi
      split at hv
      · cases hv
        obtain ⟨z, hz, hzw⟩ := hw a List.mem_cons_self
        rw [hi, hy] at hz; cases hz
        rw [← hzw]; exact eval_bound _ _ _
      · simp at hv
    · exact hm i v y hv hy
theorem exec_is {p : Prog} (hf : formedM p = true) {c : Config} (hc : isM p c = true) {t i : Nat} {x : Thread} {s : Step} (hx : p.threads[t]? = some x) (hs : x.steps[i]? = some s) : isM p (execS p c t s) = true := by
  rw [is_iff] at hc ⊢
  have hok := formed_step hf hx hs
  refine ⟨by simp only [execS, write_len]; exact hc.lm, ?_, by simp [execS], ?_, ?_, ?_⟩
  · simp only [execS]; split <;> simp <;> exact hc.la
  · exact write_at hok.wid hc.mem
  · have key : ∀ (j : Nat) (a : Int) (z : Thread), (c.at_.set t s.to)[j]? = some a → p.threads[j]? = some z → -1 ≤ a ∧ a < z.points ∧ (a = -1 → z.asleep = true) := by
      intro j a z ha hz
      rw [List.getElem?_set] at ha
      split at ha
      · rename_i hj
        split at ha
        · cases ha
          subst hj
          rw [hx] at hz; cases hz
          have := hok.to
          exact ⟨by omega, by omega, by omega⟩
        · simp at ha
      · exact hc.at_ j a z ha hz
    intro j a z ha hz
    simp only [execS] at ha
    split at ha
    · rw [List.getElem?_set] at ha
      split at ha
      · split at ha
        · cases ha
          have := points_bound hf hz
          exact ⟨by omega, by omega, by omega⟩
        · simp at ha
      · exact key j a z ha hz
    · exact key j a z ha hz
  · intro b hb
    simp only [execS, List.mem_map] at hb
    obtain ⟨_, _, rfl⟩ := hb
    rfl
/-- What a choice that is offered leads to. -/
theorem next_ok {p : Prog} (hf : formedM p = true) {c : Config} (hc : isM p c = true) {y : Choice} (hy : y ∈ choicesM p c) :
    ∃ (t : Nat) (x : Thread) (i : Nat) (s : Step), p.threads[t]? = some x ∧ x.steps[i]? = some s ∧ enabledM p c t s = true ∧ y = ⟨t, i, 0⟩ ∧ nextM p c y = (execS p c t s, 0) ∧ isM p (execS p c t s) = true := by
  obtain ⟨t, x, i, s, hx, hs, he, rfl⟩ := choices_mem.1 hy
  refine ⟨t, x, i, s, hx, hs, he, rfl, ?_, exec_is hf hc hx hs⟩
  rw [nextM, hf, hc]
  simp only [Bool.and_self, if_true, (hasM_iff _ _).2 hy]
  simp [execM, stepAt, hx, hs]
theorem pick_mem {l : List Choice} (h : l ≠ []) (k : Int) : pickAt l k ∈ l := by
  have hl : 0 < l.length := List.length_pos_iff.2 h
  have : k.toNat % l.length < l.length := Nat.mod_lt _ hl
  rw [pickAt, List.getD_eq_getElem?_getD, List.getElem?_eq_getElem this]
  exact List.getElem_mem _
theorem enabledL_eq {p : Prog} (hf : formedM p = true) {c : Config} (hc : isM p c = true) : enabledL p c = choicesM p c := by
  rw [enabledL, hf, hc]; rfl
theorem walkGo_is {p : Prog} (hf : formedM p = true) : ∀ (l : List Int) (c : Config), isM p c = true → isM p (walkGo p c l) = true
  | [], c, h => h
  | k :: r, c, h => by
    rw [walkGo]
    split
    · exact h
    · rename_i hne
      have hm := pick_mem hne k
      rw [enabledL_eq hf h] at hm
      obtain ⟨t, x, i, s, hx, hs, he, hy, hn, hi⟩ := next_ok hf h hm
      rw [enabledL_eq hf h, hn]
      exact walkGo_is hf r _ hi
theorem walk_is {p : Prog} (hf : formedM p = true) (l : List Int) : isM p (walkM p l) = true := walkGo_is hf l _ (start_is hf)
end Rg
end
section
/- Rh: package expr: copies of expressions. No condition. -/
set_option linter.unusedSimpArgs false
set_option linter.unusedVariables false
namespace Rg
open Go
namespace Expr
mutual
/-- The expression whose nodes without kids are replaced. -/
def mapL (f : Expr → Expr) : Expr → Expr
  | .mk o w n [] => f (.mk o w n [])
  | .mk o w n (k :: ks) => .mk o w n (mapL f k :: mapLs f ks)
def mapLs (f : Expr → Expr) : List Expr → List Expr
  | [] => []
  | e :: r => mapL f e :: mapLs f r
end
end Expr
/-- The cells show an expression, by objects from lo to hi. -/
def Cut (h : Nat → Option O) (lo hi : Nat) (cs : List V) (e : Expr) : Prop :=
  ∃ x, cs = [.t (ti e.op), .t (ti e.w), .t (ti e.n), x] ∧ V.cells x = some [x] ∧
    ∀ h2 d, e.size ≤ d → (∀ k, lo ≤ k → k < hi → h2 k = h k) → toT h2 d x = some (.sl (e.kids.map Expr.enc))
theorem Cut.mono {h h' : Nat → Option O} {lo hi lo' hi' : Nat} {cs : List V} {e : Expr} (c : Cut h lo hi cs e) (h1 : lo' ≤ lo) (h2 : hi ≤ hi') (hh : ∀ k, lo ≤ k → k < hi → h' k = h k) : Cut h' lo' hi' cs e := by
  obtain ⟨x, hc, hx, ht⟩ := c
  exact ⟨x, hc, hx, fun g d hd hg => ht g d hd fun k k1 k2 => (hg k (by omega) (by omega)).trans (hh k k1 k2)⟩
theorem Cut.tree (h : Nat → Option O) (lo hi : Nat) (e : Expr) : Cut h lo hi [.t (ti e.op), .t (ti e.w), .t (ti e.n), .t (.sl (e.kids.map Expr.enc))] e :=
  ⟨_, rfl, rfl, fun _ d _ _ => by cases d <;> rfl⟩
end Rg
end
section
/- Rh: package expr: copies of expressions, second part; substitution. No condition. -/
set_option linter.unusedSimpArgs false
set_option linter.unusedVariables false
namespace Rg
open Go
end Rg
end
section
/- Rh: package expr: substitution. No condition. -/
set_option linter.unusedSimpArgs false
set_option linter.unusedVariables false
namespace Rg
open Go
end Rg
end
section
/- Rh: package expr: substitution, second part. No condition. -/
set_option linter.unusedSimpArgs false
set_option linter.unusedVariables false
namespace Rg
open Go
end Rg
end
section
/- Rh: layer 11: substitution and assignment, the plain law. No condition. -/
set_option linter.unusedSimpArgs false
set_option linter.unusedVariables false
namespace Rg
open Go
theorem write_off {view : List Int} {c : Nat} : ∀ {set : List Assign} {mem : List Int}, (∀ a ∈ set, 0 ≤ a.cell ∧ a.cell ≠ c) → (writeM mem view set)[c]? = mem[c]?
  | [], mem, _ => rfl
  | a :: r, mem, h => by
    have e : writeM mem view (a :: r) = writeM (mem.set a.cell.toNat (a.to.eval view view)) view r := rfl
    have h0 := h a (by simp)
    rw [e, write_off fun b hb => h b (by simp [hb]), List.getElem?_set, if_neg (by omega)]
/-- What is assumed of the assignments of a step. -/
structure SetOk (p : Prog) (set : List Assign) : Prop where
  rng : ∀ a ∈ set, inR a.cell p.cells.length = true ∧ a.to.valid p.cells false = true
  wid : ∀ a ∈ set, ∃ y, p.cells[a.cell.toNat]? = some y ∧ a.to.w = y.w
  dif : ∀ (i j : Nat) (a b : Assign), set[i]? = some a → set[j]? = some b → a.cell = b.cell → i = j
end Rg
end
section
/- Rh: layer 11: the fourth law. No condition. -/
set_option linter.unusedSimpArgs false
set_option linter.unusedVariables false
namespace Rg
open Go
theorem formed_set {p : Prog} (hf : formedM p = true) {t i : Nat} {x : Thread} {s : Step} (hx : p.threads[t]? = some x) (hs : x.steps[i]? = some s) : SetOk p s.set :=
  let h := formed_step hf hx hs
  ⟨h.rng.2, h.wid, h.dif⟩
theorem few_set {p : Prog} (hf : fewM p = true) {t i : Nat} {x : Thread} {s : Step} (hx : p.threads[t]? = some x) (hs : x.steps[i]? = some s) : s.set.length ≤ 8 ∧ ∀ a ∈ s.set, a.to.size ≤ 30 := by
  simp only [fewM, Bool.and_eq_true, decide_eq_true_eq, List.all_eq_true] at hf
  obtain ⟨⟨⟨⟨⟨⟨h1, h2⟩, h3⟩, h4⟩, h5⟩, h6⟩, h7⟩ := hf
  have ht := (fewGo_mem h5 (by omega) x (List.mem_of_getElem? hx)).2.2.2.2
  simp only [fewT, Bool.and_eq_true, List.all_eq_true] at ht
  have hst := ht.1.1 s (List.mem_of_getElem? hs)
  simp only [fewS, fewA, Bool.and_eq_true, List.all_eq_true, decide_eq_true_eq] at hst
  exact ⟨by omega, fun a ha => by have := hst.2 a ha; omega⟩
theorem rem_in {a : Int} (ha : 0 ≤ a) {n : Nat} (hn : 0 < n) : 0 ≤ a.tmod n ∧ (a.tmod n).toNat < n := by
  rw [Int.tmod_eq_emod_of_nonneg ha]
  have h1 := Int.emod_nonneg a (b := (n : Int)) (by omega)
  have h2 := Int.emod_lt_of_pos a (b := (n : Int)) (by omega)
  omega
end Rg
end
section
/- Rh: package program: the cells that a step writes. No condition. -/
set_option linter.unusedSimpArgs false
set_option linter.unusedVariables false
namespace Rg
open Go
theorem intsOf_rowsI : ∀ l : List Int, intsOf (rowsI l) = some l
  | [] => rfl
  | a :: l => by
    have : rowsI (a :: l) = [.t (.int .i64 a)] :: rowsI l := rfl
    rw [this, intsOf, intsOf_rowsI l]; rfl
theorem ofInts_rowsI (l : List Int) : ofInts l = rowsI l := by simp [ofInts, rowsI]
/-- A list in order, each number once. -/
def sortedM (l : List Int) : List Int := Go.Lib.compact (l.mergeSort fun x y => decide (x ≤ y))
theorem compact_mem (l : List Int) (x : Int) : x ∈ Go.Lib.compact l ↔ x ∈ l := by
  unfold Go.Lib.compact Go.Lib.compactUpTo
  simp only [List.mem_map, List.mem_filter, List.mem_range]
  constructor
  · rintro ⟨j, ⟨hj, _⟩, rfl⟩
    simp [hj]
  · intro hx
    obtain ⟨i, hi⟩ := List.getElem?_of_mem hx
    have key : ∀ i : Nat, l[i]? = some x → ∃ a, (a < l.length ∧ Go.Lib.keeps l.toArray a = true) ∧ l.toArray[a]! = x := by
      intro i
      induction i with
      | zero =>
        intro h
        obtain ⟨h1, h2⟩ := List.getElem?_eq_some_iff.1 h
        exact ⟨0, ⟨h1, by simp [Go.Lib.keeps]⟩, by simp [h1, h2]⟩
      | succ i ih =>
        intro h
        obtain ⟨h1, h2⟩ := List.getElem?_eq_some_iff.1 h
        by_cases he : l[i]? = some x
        · exact ih he
        · refine ⟨i + 1, ⟨h1, ?_⟩, by simp [h1, h2]⟩
          have hi : i < l.length := by omega
          have : ¬ l[i + 1] = l[i] := by
            intro hh
            rw [List.getElem?_eq_getElem hi] at he
            exact he (by rw [← hh, h2])
          simp [Go.Lib.keeps, h1, hi, this]
    exact key i hi
theorem sortedM_mem (l : List Int) (x : Int) : x ∈ sortedM l ↔ x ∈ l := by
  rw [sortedM, compact_mem, List.mem_mergeSort]
theorem compactL (l : List Int) : (Go.Lib.compact l).length ≤ l.length := by
  unfold Go.Lib.compact Go.Lib.compactUpTo
  rw [List.length_map]
  exact Nat.le_trans (List.length_filter_le _ _) (by simp)
theorem sortedM_len (l : List Int) : (sortedM l).length ≤ l.length := by
  have := compactL (l.mergeSort fun x y => decide (x ≤ y))
  rwa [List.length_mergeSort] at this
/-- A slice that shows numbers, with what lies behind it. -/
def Shown (h : Nat → Option O) (r : V) (l : List Int) : Prop := (r = .t .nils ∧ l = []) ∨ ∃ k m, r = .ms k 0 l.length ∧ h k = some (.rows 1 (rowsI (l ++ m)) false)
theorem sorted_den (H : Nat → Option O) (x n : Nat) (v : V) (l : List Int) (ho : OwnB H x v 1 (rowsI l)) (hl : l.length < 2 ^ 40) :
    ∃ r h' n', DenR Γ G 57 [v] H n = some (r, h', n') ∧ Shown h' r (sortedM l) := by
  (refine denR_ofY Γ57 rfl ?_; dsimp only [f57])
  rcases ho with ⟨rfl, hr⟩ | ⟨k, rfl, hk, hh⟩
  · have hl0 : l = [] := by
      have := congrArg List.length hr
      rw [rowsI_len] at this
      exact List.eq_nil_of_length_eq_zero this
    subst hl0
    have a1 : ∀ n, DenR Γ G 74 [.t .nils] H n = some (.tup [], H, n) := fun n => denR_ext Γ74 rfl rfl rfl
    have a2 : ∀ n, DenR Γ G 75 [.t .nils] H n = some (.t .nils, H, n) := fun n => denR_ext Γ75 rfl rfl rfl
    simp -dsimp -implicitDefEqProofs only [go_sem, seval, a1, a2]
    exact .inl ⟨rfl, by rw [sortedM, List.mergeSort_nil]; rfl⟩
  · rw [rowsI_len]
    have s1 : (l.mergeSort fun x y => decide (x ≤ y)).length = l.length := List.length_mergeSort _
    have a1 : ∀ n, DenR Γ G 74 [.ms k 0 l.length] H n = some (.tup [], upd H k (some (.rows 1 (rowsI (l.mergeSort fun x y => decide (x ≤ y))) false)), n) := fun n => denR_ext Γ74 rfl rfl (by
      simp only [extSem, hh, intsOf_rowsI, Option.bind_some, ofInts_rowsI]
      rw [if_pos (by exact ⟨trivial, by omega⟩)])
    have a2 : ∀ n, DenR Γ G 75 [.ms k 0 l.length] (upd H k (some (.rows 1 (rowsI (l.mergeSort fun x y => decide (x ≤ y))) false))) n = some (.ms k 0 (sortedM l).length, upd (upd H k (some (.rows 1 (rowsI (l.mergeSort fun x y => decide (x ≤ y))) false))) k (some (.rows 1 (rowsI (sortedM l ++ List.replicate (l.length - (sortedM l).length) 0)) false)), n) := fun n => denR_ext Γ75 rfl rfl (by
      simp only [extSem, upd_same, intsOf_rowsI, Option.bind_some, ofInts_rowsI]
      rw [if_pos ⟨s1, by omega⟩, s1]; rfl)
    simp -dsimp -implicitDefEqProofs only [go_sem, seval, a1, a2]
    exact .inr ⟨k, _, rfl, upd_same _ _ _⟩
def writesM (s : Step) : List Int := sortedM (s.set.map Assign.cell)
theorem writes_den (s : Step) (hs : s.set.length < 2 ^ 31) : Den Γ G 28 [(.agg [.t (ti (s).kind), .t (ti (s).fr), .t (ti (s).to), .t (ti ((s).guard).op), .t (ti ((s).guard).w), .t (ti ((s).guard).n), .t (.sl (((s).guard).kids.map Expr.enc)), .t (.sl ((s).set.map Assign.enc)), .t (tb (s).release), .t (ti (s).target), .t (ti (s).module)])] = some (.t (ints (writesM s))) := by
  (refine den_ofY Γ28 rfl ?_; dsimp only [f28])
  simp -dsimp -implicitDefEqProofs only [go_sem, seval]
  refine loopYH 523816 s.set.length (fun i f h x => (f 9).v = vi i ∧ OwnB h x (f 3).v 1 (rowsI ((s.set.map Assign.cell).take i))) rfl ⟨by simp -dsimp -implicitDefEqProofs only [go_sem, seval], .inl ⟨by simp -dsimp -implicitDefEqProofs only [go_sem, seval], rfl⟩⟩ ?_
  rintro i f u H x bs hi ⟨h9, hown⟩
  have hw := wrapS i (by omega)
  simp -dsimp -implicitDefEqProofs only [go_sem, seval, h9]
  refine csplit (fun h => ?_) (fun h => ?_) <;> (try rw [h]) <;> (try simp only [bools] at h) <;> (try simp -dsimp -implicitDefEqProofs only [go_sem, seval, h9])
  · obtain ⟨a, ha, _⟩ := get_of ‹i < s.set.length›
    have ha' : (s.set.map Assign.cell)[i]? = some a.cell := by simp [ha]
    have v1 := hown.valOf
    have v2 := hown.r2
    have v3 := hown.r3
    simp -dsimp -implicitDefEqProofs only [go_sem, seval, h9, ha, v1, v2, v3]
    refine putA_app1 (hown.upd (by omega) _) (by omega) (by rw [rowsI_len]; simp; omega) (by decide) rfl (rowsI_all _) ?_
    intro v hp hO hoffs hkeep
    have w1 := hO.valOf
    rw [show rowsI ((s.set.map Assign.cell).take i) ++ [[V.t (ti a.cell)]] = rowsI ((s.set.map Assign.cell).take (i + 1)) from by rw [take_succ_of ha', rowsI_app]] at hO
    simp -dsimp -implicitDefEqProofs only [go_sem, seval, w1, h9]
    exact ⟨by omega, by simp -dsimp -implicitDefEqProofs only [go_sem, seval, hw], by simp -dsimp -implicitDefEqProofs only [go_sem, seval]; exact hO.le (by omega)⟩
  · have : i = s.set.length := by omega
    subst this
    rw [show (s.set.map Assign.cell).take s.set.length = s.set.map Assign.cell from List.take_of_length_le (by simp)] at hown
    have v1 := hown.valOf
    simp -dsimp -implicitDefEqProofs only [go_sem, seval, v1]
    refine rawK_of (sorted_den H x _ _ _ hown (by simp; omega)) ?_
    rintro r h' n' hsh
    rcases hsh with ⟨rfl, he⟩ | ⟨k, m, rfl, hk⟩
    · simp -dsimp -implicitDefEqProofs only [go_sem, seval]
      rw [writesM, he]; rfl
    · have q1 : List.take (sortedM (s.set.map Assign.cell)).length (rowsI (sortedM (s.set.map Assign.cell) ++ m)) = rowsI (sortedM (s.set.map Assign.cell)) := by simp [rowsI]
      have q2 : (rowsI (sortedM (s.set.map Assign.cell) ++ m)).length = (sortedM (s.set.map Assign.cell)).length + m.length := by rw [rowsI_len, List.length_append]
      simp -dsimp -implicitDefEqProofs only [go_sem, seval, hk, q1, q2, Nat.le_add_right, rowsI_toT]
      rfl
end Rg
end
section
/- Rh: layer 11: the third law. No condition. -/
set_option linter.unusedSimpArgs false
set_option linter.unusedVariables false
namespace Rg
open Go
theorem hasI_den (l : List Int) (n : Int) (hl : l.length < 2 ^ 50) : Den Γ G 29 [.t (ints l), vi n] = some (vb (decide (n ∈ l))) := by
  (refine den_ofY Γ29 rfl ?_; dsimp only [f29])
  simp -dsimp -implicitDefEqProofs only [go_sem, seval]
  refine loopY 262128 l.length (fun i f => (f 5).v = vi i ∧ n ∉ l.take i) rfl rfl ⟨by simp -dsimp -implicitDefEqProofs only [go_sem, seval], by simp⟩ ?_
  rintro i f u kk bb hi ⟨h3, hno⟩
  have hw := wrapS i (by omega)
  simp -dsimp -implicitDefEqProofs only [go_sem, seval, h3]
  refine csplit (fun h => ?_) (fun h => ?_) <;> (try rw [h]) <;> (try simp only [bools] at h) <;> (try simp -dsimp -implicitDefEqProofs only [go_sem, seval, h3])
  · obtain ⟨y, hy, hym⟩ := get_of ‹i < l.length›
    simp -dsimp -implicitDefEqProofs only [go_sem, seval, h3, hy]
    refine csplit (fun h => ?_) (fun h => ?_) <;> (try rw [h]) <;> (try simp only [bools] at h) <;> (try simp -dsimp -implicitDefEqProofs only [go_sem, seval, h3])
    · have : n ∈ l := by rw [← h]; exact hym
      simp [this]
    · refine ⟨by omega, by simp -dsimp -implicitDefEqProofs only [go_sem, seval, hw], ?_⟩
      rw [take_succ_of hy]
      simp only [List.mem_append, List.mem_singleton, not_or]
      exact ⟨hno, fun e => h e.symm⟩
  · have : i = l.length := by omega
    subst this
    rw [List.take_length] at hno
    simp [hno]
/-- What a step writes. -/
theorem exec_mem {p : Prog} {c : Config} {t : Nat} {s : Step} (hs : SetOk p s.set) {i : Nat} (h : (execS p c t s).mem[i]? ≠ c.mem[i]?) : (i : Int) ∈ writesM s := by
  rw [writesM, sortedM_mem, List.mem_map]
  by_cases hx : ∃ a ∈ s.set, a.cell = (i : Int)
  · obtain ⟨a, ha, hc⟩ := hx; exact ⟨a, ha, hc⟩
  · exfalso
    refine h (write_off fun a ha => ⟨?_, fun hc => hx ⟨a, ha, hc⟩⟩)
    have := (hs.rng a ha).1
    simp only [inR, decide_eq_true_eq] at this; omega
theorem law5_den (p : Prog) (hl : p.lite) (picks : List Int) (hpk : ∀ k ∈ picks, 0 ≤ k ∧ k < 256) (pick : Int) (hp : 0 ≤ pick ∧ pick < 256) :
    Den Γ G 5 [(.agg [.t (.sl ((p).cells.map (Cell.enc))), .t (.sl ((p).modules.map (Contract.enc))), .t (.sl ((p).locks.map (Lock.enc))), .t (.sl ((p).threads.map (Thread.enc)))]), .t (bytesT picks), .t (.int .u8 pick)] = some (vb true) := by
  (refine den_ofY Γ5 rfl ?_; dsimp only [f5])
  have h1 := good_den p hl
  have hlb : (picks.map fun n => [T.int .u8 n]).length = picks.length := by simp
  simp -dsimp -implicitDefEqProofs only [go_sem, seval, head_den, h1]
  cases hg : goodM p
  · simp -dsimp -implicitDefEqProofs only [go_sem, seval]
  · simp -dsimp -implicitDefEqProofs only [go_sem, seval, hlb]
    by_cases hlen : picks.length ≤ 40
    · have hlen' : decide ((picks.length : Int) > 40) = false := by simp; omega
      simp only [goodM, Bool.and_eq_true] at hg
      obtain ⟨hf, hfo⟩ := hg
      have hs := few_sane hl hf
      have a5 := walkR_den p hs picks hpk hlen
      have hc := walk_sane hs picks
      have hi := walk_is hfo picks
      generalize walkM p picks = c at *
      have a1 := enabledRL_den p hs c hc
      rw [enabledL_eq hfo hi] at a1
      have hel := enabled_len (p := p) c
      rw [enabledL_eq hfo hi] at hel
      simp -dsimp -implicitDefEqProofs only [go_sem, seval, hlen', a5, a1]
      by_cases h0 : (choicesM p c).length = 0
      · have h0' : ((choicesM p c).length : Int) = 0 := by omega
        simp -dsimp -implicitDefEqProofs only [go_sem, seval, h0']
      · have h0' : ¬ ((choicesM p c).length : Int) = 0 := by omega
        have wp : IntKind.i64.wrap pick = pick := wrap64 (by omega)
        obtain ⟨k0, k1⟩ := rem_in hp.1 (n := (choicesM p c).length) (by omega)
        obtain ⟨y, hy, hym⟩ := get_of k1
        obtain ⟨t, z, j, s, hz, hsj, hen, rfl, hn, hd⟩ := next_ok hfo hi hym
        have b1 := nextP_den p hs c hc ⟨t, j, 0⟩
        rw [hn] at b1
        obtain ⟨hsl, hsz⟩ := few_set hf hz hsj
        have b2 := writes_den s (by omega)
        have hic := is_iff.1 hi
        have hid := is_iff.1 hd
        have e1 : (((execS p c t s).mem.length : Nat) : Int) = c.mem.length := by rw [hid.lm, hic.lm]
        have e2 : (((execS p c t s).at_.length : Nat) : Int) = c.at_.length := by rw [hid.la, hic.la]
        have e3 : (((execS p c t s).buf.length : Nat) : Int) = c.at_.length := by rw [hid.lb, hic.la]
        have hwl : (writesM s).length < 2 ^ 50 := by
          have := sortedM_len (s.set.map Assign.cell)
          simp only [List.length_map] at this
          unfold writesM; omega
        have b3 : ∀ n : Int, _ := fun n => hasI_den (writesM s) n hwl
        have hm : c.mem.length ≤ 40 := by
          have := (limits_points (formed_limits hfo).1).1
          rw [hic.lm]; omega
        have ha : c.at_.length ≤ 40 := by
          have := (limits_points (formed_limits hfo).1).1
          rw [hic.la]; omega
        simp -dsimp -implicitDefEqProofs only [go_sem, seval, h0', wp, k0, hy, hz, hsj, b1, e1, e2, e3, b2]
        refine loopY 664613958278376679319734733368229952 c.mem.length (fun i f => (f 15).v = vi i) rfl rfl (by simp -dsimp -implicitDefEqProofs only [go_sem, seval]) ?_
        rintro i f u kk bb hi15 h15
        have hw := wrapS i (by omega)
        simp -dsimp -implicitDefEqProofs only [go_sem, seval, h15]
        refine csplit (fun h => ?_) (fun h => ?_) <;> (try rw [h]) <;> (try simp only [bools] at h) <;> (try simp -dsimp -implicitDefEqProofs only [go_sem, seval, h15])
        · obtain ⟨v, hv, _⟩ := get_of ‹i < c.mem.length›
          obtain ⟨v', hv', _⟩ := get_of (l := (execS p c t s).mem) (i := i) (by omega)
          have hmem : ¬ v' = v → (i : Int) ∈ writesM s := fun hne => exec_mem (formed_set hfo hz hsj) (by rw [hv, hv']; simpa using hne)
          by_cases hvv : v' = v
          · simp -dsimp -implicitDefEqProofs only [go_sem, seval, h15, hv, hv', hvv]
            exact ⟨by omega, by simp -dsimp -implicitDefEqProofs only [go_sem, seval, hw]⟩
          · have hb := b3 i
            rw [decide_eq_true (hmem hvv)] at hb
            simp -dsimp -implicitDefEqProofs only [go_sem, seval, h15, hv, hv', hvv, hb]
            exact ⟨by omega, by simp -dsimp -implicitDefEqProofs only [go_sem, seval, hw]⟩
        · refine loopY 5846006549322947058816846872928680175093590196288 c.at_.length (fun i f => (f 16).v = vi i) rfl rfl (by simp -dsimp -implicitDefEqProofs only [go_sem, seval]) ?_
          clear h15 hw
          rintro i f u kk bb hi16 h16
          have hw := wrapS i (by omega)
          simp -dsimp -implicitDefEqProofs only [go_sem, seval, h16]
          refine csplit (fun h => ?_) (fun h => ?_) <;> (try rw [h]) <;> (try simp only [bools] at h) <;> (try simp -dsimp -implicitDefEqProofs only [go_sem, seval, h16])
          · obtain ⟨v, hv, _⟩ := get_of ‹i < c.at_.length›
            obtain ⟨bf, hbf, hbm⟩ := get_of (l := (execS p c t s).buf) (i := i) (by omega)
            have hbe := hid.buf bf hbm
            subst hbe
            have hok := formed_step hfo hz hsj
            by_cases hit : i = t
            · subst hit
              have hat : (execS p c i s).at_[i]? = some s.to := by
                simp only [execS]
                split
                · rename_i hk6
                  have := (hok.tgt (.inl hk6)).2
                  have hr := (hok.tgt (.inl hk6)).1
                  simp only [inR, decide_eq_true_eq] at hr
                  rw [List.getElem?_set, if_neg (by omega), List.getElem?_set, if_pos rfl, if_pos (by omega)]
                · rw [List.getElem?_set, if_pos rfl, if_pos (by omega)]
              simp -dsimp -implicitDefEqProofs only [go_sem, seval, h16, hv, hat, hbf]
              exact ⟨by omega, by simp -dsimp -implicitDefEqProofs only [go_sem, seval, hw]⟩
            · have hit' : ¬ (i : Int) = (t : Int) := by omega
              by_cases hk6 : s.kind = 6
              · have hr := (hok.tgt (.inl hk6)).1
                simp only [inR, decide_eq_true_eq] at hr
                by_cases htg : (i : Int) = s.target
                · have hat : (execS p c t s).at_[i]? = some 0 := by
                    simp only [execS, hk6, if_true]
                    rw [List.getElem?_set, if_pos (by omega), if_pos (by simp; omega)]
                  have htg' : ((i : Int) = s.target) = True := eq_true htg
                  simp -dsimp -implicitDefEqProofs only [go_sem, seval, h16, hv, hat, hbf, hit', hk6, htg']
                  exact ⟨by omega, by simp -dsimp -implicitDefEqProofs only [go_sem, seval, hw]⟩
                · have hat : (execS p c t s).at_[i]? = some v := by
                    simp only [execS, hk6, if_true]
                    rw [List.getElem?_set, if_neg (by omega), List.getElem?_set, if_neg (by omega)]; exact hv
                  simp -dsimp -implicitDefEqProofs only [go_sem, seval, h16, hv, hat, hbf, hit', hk6, htg]
                  exact ⟨by omega, by simp -dsimp -implicitDefEqProofs only [go_sem, seval, hw]⟩
              · have hat : (execS p c t s).at_[i]? = some v := by
                  simp only [execS, hk6, if_false]
                  rw [List.getElem?_set, if_neg (by omega)]; exact hv
                simp -dsimp -implicitDefEqProofs only [go_sem, seval, h16, hv, hat, hbf, hit', hk6]
                exact ⟨by omega, by simp -dsimp -implicitDefEqProofs only [go_sem, seval, hw]⟩
    · have hlen' : decide ((picks.length : Int) > 40) = true := by simp; omega
      simp -dsimp -implicitDefEqProofs only [go_sem, seval, hlen']
end Rg
end
