/- Part of the proof of the laws of the package relyguardlaw11: an abstract machine for the program's functions, what they compute, and that the machine is the program's. No condition. (H11n H11o H11p H11q H11r H11s H11t H12a H12b) -/
import Derived.Test.YtnfmmdkonagnaaaGreatDoorPartAX
section
/- Rh: layer 11: small programs. No condition. -/
set_option linter.unusedSimpArgs false
set_option linter.unusedVariables false
namespace Rg
open Go
def fewA (a : Assign) : Bool := decide ((a.to.size : Int) ≤ 30)
def fewS (s : Step) : Bool := decide ((s.guard.size : Int) ≤ 30) && decide ((s.set.length : Int) ≤ 8) && s.set.all fewA
def fewL (l : Loop) : Bool := decide ((l.variant.size : Int) ≤ 30) && decide ((l.body.length : Int) ≤ 48)
def few60 (e : Expr) : Bool := decide ((e.size : Int) ≤ 60)
def fewT (x : Thread) : Bool := x.steps.all fewS && x.asserts.all few60 && x.loops.all fewL
theorem few_den (x : Thread) (h1 : x.steps.length < 2 ^ 40) (h2 : x.asserts.length < 2 ^ 40) (h3 : x.loops.length < 2 ^ 40) : Den Γ G 36 [(.agg [.t (.str (x).name), .t (ti (x).points), .t (.sl ((x).asserts.map Expr.enc)), .t (ints (x).modules), .t (.sl ((x).steps.map Step.enc)), .t (.sl ((x).loops.map Loop.enc)), .t (tb (x).asleep)])] = some (vb (fewT x)) := by
  (refine den_ofY Γ36 rfl ?_; dsimp only [f36])
  simp -dsimp -implicitDefEqProofs only [go_sem, seval]
  refine loopY 36028797018963868 x.steps.length (fun i f => (f 3).v = vi i ∧ x.steps.all fewS = (x.steps.drop i).all fewS) rfl rfl ⟨by simp -dsimp -implicitDefEqProofs only [go_sem, seval], rfl⟩ ?_
  rintro i f u kk bb hi ⟨h3', hall⟩
  have hw := wrapS i (by omega)
  simp -dsimp -implicitDefEqProofs only [go_sem, seval, h3']
  refine csplit (fun h => ?_) (fun h => ?_) <;> (try rw [h]) <;> (try simp only [bools] at h) <;> (try simp -dsimp -implicitDefEqProofs only [go_sem, seval, h3'])
  · obtain ⟨s, hs, hsm⟩ := get_of ‹i < x.steps.length›
    have hg := small_den s.guard 30 (by omega)
    have hno : fewS s = false → false = fewT x := fun h0 => by rw [fewT, hall, all_stop hs h0]; rfl
    simp -dsimp -implicitDefEqProofs only [go_sem, seval, h3', hs, hg]
    refine csplit (fun h => ?_) (fun h => ?_) <;> (try rw [h]) <;> (try simp only [bools] at h) <;> (try simp -dsimp -implicitDefEqProofs only [go_sem, seval, h3', hs])
    · exact hno (by simp [fewS]; omega)
    · have e1 : (s.guard.size : Int) ≤ 30 := by assumption
      refine csplit (fun h => ?_) (fun h => ?_) <;> (try rw [h]) <;> (try simp only [bools] at h) <;> (try simp -dsimp -implicitDefEqProofs only [go_sem, seval, h3'])
      · exact hno (by simp [fewS]; omega)
      · have e2 : (s.set.length : Int) ≤ 8 := by omega
        refine loopY 36028792723996692 s.set.length (fun k f' => (f' 4).v = vi k ∧ s.set.all fewA = (s.set.drop k).all fewA) rfl rfl ⟨by simp -dsimp -implicitDefEqProofs only [go_sem, seval], rfl⟩ ?_
        rintro k f' u' kk' bb' hk ⟨h4, hall2⟩
        have hw' := wrapS k (by omega)
        simp -dsimp -implicitDefEqProofs only [go_sem, seval, h3', h4, hs]
        refine csplit (fun h => ?_) (fun h => ?_) <;> (try rw [h]) <;> (try simp only [bools] at h) <;> (try simp -dsimp -implicitDefEqProofs only [go_sem, seval, h3', h4])
        · obtain ⟨a, ha, ham⟩ := get_of ‹k < s.set.length›
          have hga := small_den a.to 30 (by omega)
          simp -dsimp -implicitDefEqProofs only [go_sem, seval, h3', h4, hs, ha, hga]
          refine csplit (fun h => ?_) (fun h => ?_) <;> (try rw [h]) <;> (try simp only [bools] at h) <;> (try simp -dsimp -implicitDefEqProofs only [go_sem, seval, h3', h4])
          · exact hno (by rw [fewS, hall2, all_stop ha (by simp [fewA]; omega)]; simp)
          · refine ⟨by omega, by simp -dsimp -implicitDefEqProofs only [go_sem, seval, hw'], ?_⟩
            rw [hall2, all_step ha (by simp [fewA]; omega)]
        · have : k = s.set.length := by omega
          subst this
          rw [all_end] at hall2
          refine ⟨by omega, by simp -dsimp -implicitDefEqProofs only [go_sem, seval, hw], ?_⟩
          rw [hall, all_step hs (by rw [fewS, hall2]; simp; omega)]
  · have : i = x.steps.length := by omega
    subst this
    rw [all_end] at hall
    clear h3' hw
    refine loopY 590259781561686687780 x.asserts.length (fun i f => (f 5).v = vi i ∧ x.asserts.all few60 = (x.asserts.drop i).all few60) rfl rfl ⟨by simp -dsimp -implicitDefEqProofs only [go_sem, seval], rfl⟩ ?_
    rintro i f u kk bb hi ⟨h5, hall2⟩
    have hw := wrapS i (by omega)
    simp -dsimp -implicitDefEqProofs only [go_sem, seval, h5]
    refine csplit (fun h => ?_) (fun h => ?_) <;> (try rw [h]) <;> (try simp only [bools] at h) <;> (try simp -dsimp -implicitDefEqProofs only [go_sem, seval, h5])
    · obtain ⟨e, he, _⟩ := get_of ‹i < x.asserts.length›
      have hg := small_den e 60 (by omega)
      simp -dsimp -implicitDefEqProofs only [go_sem, seval, h5, he, hg]
      refine csplit (fun h => ?_) (fun h => ?_) <;> (try rw [h]) <;> (try simp only [bools] at h) <;> (try simp -dsimp -implicitDefEqProofs only [go_sem, seval, h5])
      · rw [fewT, hall, hall2, all_stop he (by simp [few60]; omega)]; rfl
      · refine ⟨by omega, by simp -dsimp -implicitDefEqProofs only [go_sem, seval, hw], ?_⟩
        rw [hall2, all_step he (by simp [few60]; omega)]
    · have : i = x.asserts.length := by omega
      subst this
      rw [all_end] at hall2
      clear h5 hw
      refine loopY 19807040038270274039680335940 x.loops.length (fun i f => (f 6).v = vi i ∧ x.loops.all fewL = (x.loops.drop i).all fewL) rfl rfl ⟨by simp -dsimp -implicitDefEqProofs only [go_sem, seval], rfl⟩ ?_
      rintro i f u kk bb hi ⟨h6, hall3⟩
      have hw := wrapS i (by omega)
      simp -dsimp -implicitDefEqProofs only [go_sem, seval, h6]
      refine csplit (fun h => ?_) (fun h => ?_) <;> (try rw [h]) <;> (try simp only [bools] at h) <;> (try simp -dsimp -implicitDefEqProofs only [go_sem, seval, h6])
      · obtain ⟨l, hl, _⟩ := get_of ‹i < x.loops.length›
        have hg := small_den l.variant 30 (by omega)
        have hno : fewL l = false → false = fewT x := fun h0 => by rw [fewT, hall, hall2, hall3, all_stop hl h0]; rfl
        simp -dsimp -implicitDefEqProofs only [go_sem, seval, h6, hl, hg]
        refine csplit (fun h => ?_) (fun h => ?_) <;> (try rw [h]) <;> (try simp only [bools] at h) <;> (try simp -dsimp -implicitDefEqProofs only [go_sem, seval, h6, hl])
        · exact hno (by simp [fewL]; omega)
        · have e1 : (l.variant.size : Int) ≤ 30 := by assumption
          refine csplit (fun h => ?_) (fun h => ?_) <;> (try rw [h]) <;> (try simp only [bools] at h) <;> (try simp -dsimp -implicitDefEqProofs only [go_sem, seval, h6])
          · exact hno (by simp [fewL]; omega)
          · refine ⟨by omega, by simp -dsimp -implicitDefEqProofs only [go_sem, seval, hw], ?_⟩
            rw [hall3, all_step hl (by simp [fewL]; omega)]
      · have : i = x.loops.length := by omega
        subst this
        rw [all_end] at hall3
        rw [fewT, hall, hall2, hall3]; rfl
def fewGo : Int → List Thread → Bool
  | _, [] => true
  | n, x :: r => if n + x.steps.length > 24 ∨ (x.asserts.length : Int) > 48 ∨ (x.modules.length : Int) > 48 ∨ (x.loops.length : Int) > 8 ∨ fewT x = false then false else fewGo (n + x.steps.length) r
def fewC (m : Contract) : Bool := few60 m.rely && few60 m.guar && decide ((m.frame.length : Int) ≤ 32)
def fewM (p : Prog) : Bool :=
  decide ((p.cells.length : Int) ≤ 32) && decide ((p.threads.length : Int) ≤ 4) && decide ((p.modules.length : Int) ≤ 6) && decide ((p.locks.length : Int) ≤ 4) &&
    fewGo 0 p.threads && p.modules.all fewC && p.locks.all fun l => few60 l.inv
theorem fewM_den (p : Prog) (hb : ∀ x ∈ p.threads, x.steps.length < 2 ^ 50) : Den Γ G 9 [(.agg [.t (.sl ((p).cells.map (Cell.enc))), .t (.sl ((p).modules.map (Contract.enc))), .t (.sl ((p).locks.map (Lock.enc))), .t (.sl ((p).threads.map (Thread.enc)))])] = some (vb (fewM p)) := by
  (refine den_ofY Γ9 rfl ?_; dsimp only [f9])
  simp -dsimp -implicitDefEqProofs only [go_sem, seval]
  by_cases hl : (p.cells.length : Int) ≤ 32 ∧ (p.threads.length : Int) ≤ 4 ∧ (p.modules.length : Int) ≤ 6 ∧ (p.locks.length : Int) ≤ 4
  · obtain ⟨l1, l2, l3, l4⟩ := hl
    have g1 : ¬ (p.cells.length : Int) > 32 := by omega
    have g2 : ¬ (p.threads.length : Int) > 4 := by omega
    have g3 : ¬ (p.modules.length : Int) > 6 := by omega
    have g4 : ¬ (p.locks.length : Int) > 4 := by omega
    have hF : fewM p = (fewGo 0 p.threads && p.modules.all fewC && p.locks.all fun l => few60 l.inv) := by simp [fewM, l1, l2, l3, l4]
    simp -dsimp -implicitDefEqProofs only [go_sem, seval, g1, g2, g3, g4]
    refine loopY 4722366482868571471932 p.threads.length (fun i f => (f 4).v = vi i ∧ ∃ n : Int, 0 ≤ n ∧ n ≤ 24 ∧ (f 3).v = vi n ∧ fewGo 0 p.threads = fewGo n (p.threads.drop i)) rfl rfl ⟨by simp -dsimp -implicitDefEqProofs only [go_sem, seval], 0, by omega, by omega, by simp -dsimp -implicitDefEqProofs only [go_sem, seval], rfl⟩ ?_
    rintro i f u kk bb hi ⟨h4, n, n0, n1, h3, hgo⟩
    have hw := wrapS i (by omega)
    simp -dsimp -implicitDefEqProofs only [go_sem, seval, h4]
    refine csplit (fun h => ?_) (fun h => ?_) <;> (try rw [h]) <;> (try simp only [bools] at h) <;> (try simp -dsimp -implicitDefEqProofs only [go_sem, seval, h4])
    · obtain ⟨x, hx, hxm⟩ := get_of ‹i < p.threads.length›
      have hsl := hb x hxm
      have hwn : IntKind.i64.wrap (n + (x.steps.length : Int)) = n + x.steps.length := wrap64 (by omega)
      rw [drop_of hx, fewGo] at hgo
      simp -dsimp -implicitDefEqProofs only [go_sem, seval, h4, h3, hx, hwn]
      by_cases hbad : n + x.steps.length > 24 ∨ (x.asserts.length : Int) > 48 ∨ (x.modules.length : Int) > 48 ∨ (x.loops.length : Int) > 8
      · rw [if_pos (by rcases hbad with h | h | h | h <;> simp [h])] at hgo
        rw [hF, hgo, Bool.false_and, Bool.false_and]
        repeat' (refine csplit (fun h => ?_) (fun h => ?_) <;> (try rw [h]) <;> (try simp only [bools] at h) <;> (try simp -dsimp -implicitDefEqProofs only [go_sem, seval, h4]))
        all_goals (exfalso; omega)
      · have k1 : ¬ n + (x.steps.length : Int) > 24 := by omega
        have k2 : ¬ (x.asserts.length : Int) > 48 := by omega
        have k3 : ¬ (x.modules.length : Int) > 48 := by omega
        have k4 : ¬ (x.loops.length : Int) > 8 := by omega
        have hfw := few_den x (by omega) (by omega) (by omega)
        simp -dsimp -implicitDefEqProofs only [go_sem, seval, k1, k2, k3, k4, hfw]
        refine csplit (fun h => ?_) (fun h => ?_) <;> (try rw [h]) <;> (try simp only [bools] at h) <;> (try simp -dsimp -implicitDefEqProofs only [go_sem, seval, h4])
        · rw [if_pos (by simp [h])] at hgo
          rw [hF, hgo, Bool.false_and, Bool.false_and]
        · rw [if_neg (by simp [h]; omega)] at hgo
          exact ⟨by omega, by simp -dsimp -implicitDefEqProofs only [go_sem, seval, hw], n + x.steps.length, by omega, by omega, by simp -dsimp -implicitDefEqProofs only [go_sem, seval], hgo⟩
    · have : i = p.threads.length := by omega
      subst this
      rw [List.drop_length, fewGo] at hgo
      rw [hgo, Bool.true_and] at hF
      clear h4 hw h3 hgo
      refine loopY 162259276824490996908708365074500 p.modules.length (fun i f => (f 6).v = vi i ∧ p.modules.all fewC = (p.modules.drop i).all fewC) rfl rfl ⟨by simp -dsimp -implicitDefEqProofs only [go_sem, seval], rfl⟩ ?_
      rintro i f u kk bb hi ⟨h6, hall⟩
      have hw := wrapS i (by omega)
      simp -dsimp -implicitDefEqProofs only [go_sem, seval, h6]
      refine csplit (fun h => ?_) (fun h => ?_) <;> (try rw [h]) <;> (try simp only [bools] at h) <;> (try simp -dsimp -implicitDefEqProofs only [go_sem, seval, h6])
      · obtain ⟨m, hm, _⟩ := get_of ‹i < p.modules.length›
        have hg1 := small_den m.rely 60 (by omega)
        have hg2 := small_den m.guar 60 (by omega)
        have hno : fewC m = false → false = fewM p := fun h0 => by rw [hF, hall, all_stop hm h0]; rfl
        simp -dsimp -implicitDefEqProofs only [go_sem, seval, h6, hm, hg1]
        refine csplit (fun h => ?_) (fun h => ?_) <;> (try rw [h]) <;> (try simp only [bools] at h) <;> (try simp -dsimp -implicitDefEqProofs only [go_sem, seval, h6, hm, hg2])
        · exact hno (by simp [fewC, few60]; omega)
        · have e1 : (m.rely.size : Int) ≤ 60 := by assumption
          refine csplit (fun h => ?_) (fun h => ?_) <;> (try rw [h]) <;> (try simp only [bools] at h) <;> (try simp -dsimp -implicitDefEqProofs only [go_sem, seval, h6, hm])
          · exact hno (by simp [fewC, few60]; omega)
          · have e2 : (m.guar.size : Int) ≤ 60 := by assumption
            refine csplit (fun h => ?_) (fun h => ?_) <;> (try rw [h]) <;> (try simp only [bools] at h) <;> (try simp -dsimp -implicitDefEqProofs only [go_sem, seval, h6])
            · exact hno (by simp [fewC, few60]; omega)
            · refine ⟨by omega, by simp -dsimp -implicitDefEqProofs only [go_sem, seval, hw], ?_⟩
              rw [hall, all_step hm (by simp [fewC, few60]; omega)]
      · have : i = p.modules.length := by omega
        subst this
        rw [all_end] at hall
        rw [hall, Bool.true_and] at hF
        clear h6 hw hall
        refine loopY 5316749723862834278251836663111090308 p.locks.length (fun i f => (f 7).v = vi i ∧ fewM p = (p.locks.drop i).all fun l => few60 l.inv) rfl rfl ⟨by simp -dsimp -implicitDefEqProofs only [go_sem, seval], hF⟩ ?_
        rintro i f u kk bb hi ⟨h7, hall⟩
        have hw := wrapS i (by omega)
        simp -dsimp -implicitDefEqProofs only [go_sem, seval, h7]
        refine csplit (fun h => ?_) (fun h => ?_) <;> (try rw [h]) <;> (try simp only [bools] at h) <;> (try simp -dsimp -implicitDefEqProofs only [go_sem, seval, h7])
        · obtain ⟨l, hl, _⟩ := get_of ‹i < p.locks.length›
          have hg1 := small_den l.inv 60 (by omega)
          simp -dsimp -implicitDefEqProofs only [go_sem, seval, h7, hl, hg1]
          refine csplit (fun h => ?_) (fun h => ?_) <;> (try rw [h]) <;> (try simp only [bools] at h) <;> (try simp -dsimp -implicitDefEqProofs only [go_sem, seval, h7])
          · rw [hall, all_stop hl (by simp [few60]; omega)]
          · refine ⟨by omega, by simp -dsimp -implicitDefEqProofs only [go_sem, seval, hw], ?_⟩
            rw [hall, all_step hl (by simp [few60]; omega)]
        · have : i = p.locks.length := by omega
          subst this
          rw [hall, all_end]
  · have hF : fewM p = false := by
      cases h : fewM p
      · rfl
      · exfalso
        simp only [fewM, Bool.and_eq_true, decide_eq_true_eq] at h
        omega
    rw [hF]
    repeat' (refine csplit (fun h => ?_) (fun h => ?_) <;> (try rw [h]) <;> (try simp only [bools] at h) <;> (try simp -dsimp -implicitDefEqProofs only [go_sem, seval]))
    all_goals (exfalso; omega)
end Rg
end
section
/- Rh: layer 11: the fixed program. No condition. -/
set_option linter.unusedSimpArgs false
set_option linter.unusedVariables false
namespace Rg
open Go
def exOne : Expr := .mk 1 1 1 []
def exampleM : Prog :=
  ⟨[⟨bs [77, 46, 120], 2, 1, -1, false, 0⟩, ⟨bs [116, 46, 114], 2, 0, 0, false, 0⟩],
   [⟨bs [77], bs [111], .mk 0 0 0 [], exOne, [0]⟩], [],
   [⟨bs [116], 3, [exOne, exOne, exOne], [0, 0, 0],
     [⟨2, 0, 1, exOne, [⟨1, .mk 2 2 0 []⟩], false, 0, 0⟩,
      ⟨4, 1, 2, .mk 12 1 0 [.mk 2 2 0 [], .mk 1 2 3 []], [⟨0, .mk 8 2 0 [.mk 2 2 0 [], .mk 1 2 1 []]⟩], false, 0, 0⟩], [], false⟩]⟩
theorem example_den : Den Γ G 35 [] = some (.agg [.t (.sl ((exampleM).cells.map (Cell.enc))), .t (.sl ((exampleM).modules.map (Contract.enc))), .t (.sl ((exampleM).locks.map (Lock.enc))), .t (.sl ((exampleM).threads.map (Thread.enc)))]) := by
  (refine den_ofY Γ35 rfl ?_; dsimp only [f35])
  have c1 := const_den 1 1
  have c2 := const_den 3 2
  have c3 := const_den 1 2
  have c4 := cell_den 0 2
  have c5 := two_den 12 1 (.mk 2 2 0 []) (.mk 1 2 3 [])
  have c6 := two_den 8 2 (.mk 2 2 0 []) (.mk 1 2 1 [])
  simp only [go_sem, List.map_cons, List.map_nil] at c1 c2 c3 c4 c5 c6
  simp -dsimp -implicitDefEqProofs only [go_sem, seval, c1, c2, c3, c4, c5, c6]
  exact ⟨rfl, rfl, rfl, rfl⟩
end Rg
end
section
-- FULL
/- Rh: layer 11: the fixed program's run (head). No condition. -/
set_option linter.unusedSimpArgs false
set_option linter.unusedVariables false
namespace Rg
open Go
theorem ex_sane : exampleM.sane := by
  constructor <;> decide +kernel
def exC (a b c : Int) : Config := ⟨[a, b], [c], [[]]⟩
theorem exC_sane (a b c : Int) : (exC a b c).sane := ⟨by simp [exC], by simp [exC], by simp [exC]⟩
theorem ex_start : startM exampleM = exC 1 0 0 := by decide +kernel
theorem ex_en : enabledL exampleM (exC 1 0 0) = [⟨0, 0, 0⟩] := by decide +kernel
theorem ex_n1 : nextM exampleM (exC 1 0 0) ⟨0, 0, 0⟩ = (exC 1 1 1, 0) := by decide +kernel
theorem ex_n2 : nextM exampleM (exC 1 1 1) ⟨0, 1, 0⟩ = (exC 2 1 2, 0) := by decide +kernel
theorem ex_n3 : nextM exampleM (exC 1 1 1) ⟨0, 0, 0⟩ = (zeroC, 110) := by decide +kernel
theorem ex_d1 : doneM exampleM (exC 1 0 0) = false := by decide +kernel
theorem ex_d2 : doneM exampleM (exC 2 1 2) = true := by decide +kernel
theorem head_den : Den Γ G 8 [] = some (vb true) := by
  (refine den_ofY Γ8 rfl ?_; dsimp only [f8])
  have a1 := startP_den exampleM ex_sane
  have a2 := enabledPL_den exampleM ex_sane _ (exC_sane 1 0 0)
  have a3 := nextP_den exampleM ex_sane _ (exC_sane 1 0 0) ⟨0, 0, 0⟩
  have a4 := nextP_den exampleM ex_sane _ (exC_sane 1 1 1) ⟨0, 1, 0⟩
  have a5 := nextP_den exampleM ex_sane _ (exC_sane 1 1 1) ⟨0, 0, 0⟩
  have a6 := doneP_den exampleM ex_sane _ (exC_sane 1 0 0)
  have a7 := doneP_den exampleM ex_sane _ (exC_sane 2 1 2)
  have s1 : Den Γ G 34 [.t (ints [1, 0]), .t (.sl [[.int .i64 1], [.int .i64 0]])] = some (vb true) := (sameInts_den [1, 0] [1, 0] (by decide)).trans rfl
  have s2 : Den Γ G 34 [.t (ints [1, 1]), .t (.sl [[.int .i64 1], [.int .i64 1]])] = some (vb true) := (sameInts_den [1, 1] [1, 1] (by decide)).trans rfl
  have s3 : Den Γ G 34 [.t (ints [2, 1]), .t (.sl [[.int .i64 2], [.int .i64 1]])] = some (vb true) := (sameInts_den [2, 1] [2, 1] (by decide)).trans rfl
  have s4 : Den Γ G 34 [.t (ints [2]), .t (.sl [[.int .i64 2]])] = some (vb true) := (sameInts_den [2] [2] (by decide)).trans rfl
  rw [ex_start] at a1
  rw [ex_en] at a2
  rw [ex_n1] at a3
  rw [ex_n2] at a4
  rw [ex_n3] at a5
  rw [ex_d1] at a6
  rw [ex_d2] at a7
  simp only [go_sem, exC, zeroC, List.map_cons, List.map_nil] at a1 a2 a3 a4 a5 a6 a7
  simp -dsimp -implicitDefEqProofs [go_sem, example_den, a1, a2, a3, a4, a5, a6, a7, s1, s2, s3, s4]
end Rg
end
section
-- FULL
/- Rh: layer 11: small cases. No condition. -/
set_option linter.unusedSimpArgs false
set_option linter.unusedVariables false
namespace Rg
open Go
/-- The strings and lists of a program that are in memory. -/
structure Prog.lite (p : Prog) : Prop where
  steps : ∀ x ∈ p.threads, x.steps.length < 2 ^ 50
  cname : ∀ c ∈ p.cells, c.name.size < 2 ^ 50
  mname : ∀ m ∈ p.modules, m.name.size < 2 ^ 50 ∧ m.owner.size < 2 ^ 50
  tname : ∀ t ∈ p.threads, t.name.size < 2 ^ 50
theorem fewGo_mem {l : List Thread} : ∀ {n : Int}, fewGo n l = true → 0 ≤ n → ∀ x ∈ l, x.steps.length ≤ 24 ∧ x.asserts.length ≤ 48 ∧ x.modules.length ≤ 48 ∧ x.loops.length ≤ 8 ∧ fewT x = true := by
  induction l with
  | nil => intro n _ _ x hx; simp at hx
  | cons y r ih =>
    intro n h hn x hx
    rw [fewGo] at h
    split at h
    · simp at h
    · rename_i h0
      simp only [not_or, Bool.not_eq_false] at h0
      rcases List.mem_cons.1 hx with rfl | hx
      · refine ⟨by omega, by omega, by omega, by omega, h0.2.2.2.2⟩
      · exact ih h (by omega) x hx
theorem few_sane {p : Prog} (hl : p.lite) (h : fewM p = true) : p.sane := by
  simp only [fewM, Bool.and_eq_true, decide_eq_true_eq, List.all_eq_true] at h
  obtain ⟨⟨⟨⟨⟨⟨h1, h2⟩, h3⟩, h4⟩, h5⟩, h6⟩, h7⟩ := h
  have ht := fewGo_mem h5 (by omega)
  refine ⟨by omega, by omega, by omega, by omega, hl.cname, ?_, ?_, ?_, ?_⟩
  · intro m hm
    have := h6 m hm
    simp only [fewC, Bool.and_eq_true, decide_eq_true_eq] at this
    exact ⟨(hl.mname m hm).1, (hl.mname m hm).2, by omega⟩
  · intro t hm
    obtain ⟨a, b, c, d, _⟩ := ht t hm
    exact ⟨hl.tname t hm, by omega, by omega, by omega, by omega⟩
  · intro t hm s hs
    obtain ⟨_, _, _, _, e⟩ := ht t hm
    simp only [fewT, Bool.and_eq_true, List.all_eq_true, fewS, decide_eq_true_eq] at e
    have := e.1.1 s hs
    omega
  · intro t hm l hll
    obtain ⟨_, _, _, _, e⟩ := ht t hm
    simp only [fewT, Bool.and_eq_true, List.all_eq_true, fewL, decide_eq_true_eq] at e
    have := e.2 l hll
    omega
def goodM (p : Prog) : Bool := fewM p && formedM p
theorem good_den (p : Prog) (hl : p.lite) : Den Γ G 16 [(.agg [.t (.sl ((p).cells.map (Cell.enc))), .t (.sl ((p).modules.map (Contract.enc))), .t (.sl ((p).locks.map (Lock.enc))), .t (.sl ((p).threads.map (Thread.enc)))])] = some (vb (goodM p)) := by
  (refine den_ofY Γ16 rfl ?_; dsimp only [f16])
  have h1 := fewM_den p hl.steps
  simp -dsimp -implicitDefEqProofs [go_sem, h1]
  cases hf : fewM p
  · simp -dsimp -implicitDefEqProofs [go_sem, goodM, hf]
  · have h2 := formedR_den p (few_sane hl hf)
    simp -dsimp -implicitDefEqProofs [go_sem, goodM, hf, h2]
end Rg
end
section
/- Rh: layer 11: machine and reference agree at one configuration. No condition. -/
set_option linter.unusedSimpArgs false
set_option linter.unusedVariables false
namespace Rg
open Go
end Rg
end
section
/- Rh: layer 11: the first law. No condition. -/
set_option linter.unusedSimpArgs false
set_option linter.unusedVariables false
namespace Rg
open Go
theorem walkGo_sane {p : Prog} (hs : p.sane) : ∀ (l : List Int) (c : Config), c.sane → (walkGo p c l).sane
  | [], c, h => h
  | k :: r, c, h => by
    rw [walkGo]
    split
    · exact h
    · exact walkGo_sane hs r _ (next_sane hs h _)
theorem walk_sane {p : Prog} (hs : p.sane) (l : List Int) : (walkM p l).sane := walkGo_sane hs l _ (start_sane hs)
end Rg
end
section
/- Rh: layer 11: configurations that are reached are configurations of the program. No condition. -/
set_option linter.unusedSimpArgs false
set_option linter.unusedVariables false
namespace Rg
open Go
/-- What a configuration of a program is. -/
structure IsC (p : Prog) (c : Config) : Prop where
  lm : c.mem.length = p.cells.length
  la : c.at_.length = p.threads.length
  lb : c.buf.length = p.threads.length
  mem : ∀ (i : Nat) (v : Int) (y : Cell), c.mem[i]? = some v → p.cells[i]? = some y → 0 ≤ v ∧ v < 2 ^ y.w.toNat
  at_ : ∀ (i : Nat) (a : Int) (x : Thread), c.at_[i]? = some a → p.threads[i]? = some x → -1 ≤ a ∧ a < x.points ∧ (a = -1 → x.asleep = true)
  buf : ∀ b ∈ c.buf, b = []
theorem zip_all {α β : Type} {l : List α} {m : List β} {f : α × β → Bool} : (l.zip m).all f = true ↔ ∀ (i : Nat) (a : α) (b : β), l[i]? = some a → m[i]? = some b → f (a, b) = true := by
  rw [List.all_eq_true]
  constructor
  · intro h i a b ha hb
    exact h _ (List.mem_of_getElem? (zip_get ha hb))
  · intro h q hq
    obtain ⟨i, hi⟩ := List.getElem?_of_mem hq
    rw [List.getElem?_zip_eq_some] at hi
    exact h i _ _ hi.1 hi.2
theorem is_iff {p : Prog} {c : Config} : isM p c = true ↔ IsC p c := by
  simp only [isM, fitsM, Bool.and_eq_true, decide_eq_true_eq, zip_all]
  simp only [cellFit, atFit, List.all_eq_true, Bool.and_eq_true, decide_eq_true_eq, Bool.not_eq_true', Bool.and_eq_false_iff, decide_eq_false_iff_not, Bool.not_eq_false', List.isEmpty_iff]
  constructor
  · rintro ⟨⟨⟨⟨⟨h1, h2⟩, h3⟩, h4⟩, h5⟩, h6⟩
    exact ⟨h1, h2, h5, h3, fun i a x ha hx => ⟨(h4 i a x ha hx).1.1, (h4 i a x ha hx).1.2, fun h0 => by
      rcases (h4 i a x ha hx).2 with h | h
      · exact absurd h0 h
      · exact h⟩, h6⟩
  · rintro ⟨h1, h2, h5, h3, h4, h6⟩
    refine ⟨⟨⟨⟨⟨h1, h2⟩, h3⟩, fun i a x ha hx => ⟨⟨(h4 i a x ha hx).1, (h4 i a x ha hx).2.1⟩, ?_⟩⟩, h5⟩, h6⟩
    by_cases h0 : a = -1
    · exact .inr ((h4 i a x ha hx).2.2 h0)
    · exact .inl h0
theorem start_is {p : Prog} (hf : formedM p = true) : isM p (startM p) = true := by
  rw [is_iff, startM, if_pos hf]
  refine ⟨by simp, by simp, by simp, ?_, ?_, ?_⟩
  · intro i v y hv hy
    simp only [List.getElem?_map, hy, Option.map_some, Option.some.injEq] at hv
    subst hv
    exact (formed_cell hf (List.mem_of_getElem? hy)).2.2
  · intro i a x ha hx
    simp only [List.getElem?_map, hx, Option.map_some, Option.some.injEq] at ha
    have := points_bound hf hx
    subst ha
    split
    · rename_i h; exact ⟨by omega, by omega, fun _ => h⟩
    · exact ⟨by omega, by omega, by omega⟩
  · intro b hb
    simp only [List.mem_map] at hb
    obtain ⟨_, _, rfl⟩ := hb
    rfl
theorem eval_bound (e : Expr) (old now : List Int) : 0 ≤ e.eval old now ∧ e.eval old now < 2 ^ e.w.toNat := by
  unfold Expr.eval
  split
  · rename_i h; exact ev_bound old now 40 e (formed_deep h)
  · exact ⟨by omega, pow2_pos _⟩
theorem write_at {p : Prog} {view : List Int} : ∀ {set : List Assign} {mem : List Int},
    (∀ a ∈ set, ∃ y, p.cells[a.cell.toNat]? = some y ∧ a.to.w = y.w) →
    (∀ (i : Nat) (v : Int) (y : Cell), mem[i]? = some v → p.cells[i]? = some y → 0 ≤ v ∧ v < 2 ^ y.w.toNat) →
    ∀ (i : Nat) (v : Int) (y : Cell), (writeM mem view set)[i]? = some v → p.cells[i]? = some y → 0 ≤ v ∧ v < 2 ^ y.w.toNat
  | [], mem, _, hm => hm
  | a :: r, mem, hw, hm => by
    have : writeM mem view (a :: r) = writeM (mem.set a.cell.toNat (a.to.eval view view)) view r := rfl
    rw [this]
    refine write_at (fun b hb => hw b (List.mem_cons_of_mem _ hb)) ?_
    intro i v y hv hy
    rw [List.getElem?_set] at hv
    split at hv
    · rename_i hi
      split at hv
      · cases hv
        obtain ⟨z, hz, hzw⟩ := hw a List.mem_cons_self
        rw [hi, hy] at hz; cases hz
        rw [← hzw]; exact eval_bound _ _ _
      · simp at hv
    · exact hm i v y hv hy
theorem exec_is {p : Prog} (hf : formedM p = true) {c : Config} (hc : isM p c = true) {t i : Nat} {x : Thread} {s : Step} (hx : p.threads[t]? = some x) (hs : x.steps[i]? = some s) : isM p (execS p c t s) = true := by
  rw [is_iff] at hc ⊢
  have hok := formed_step hf hx hs
  refine ⟨by simp only [execS, write_len]; exact hc.lm, ?_, by simp [execS], ?_, ?_, ?_⟩
  · simp only [execS]; split <;> simp <;> exact hc.la
  · exact write_at hok.wid hc.mem
  · have key : ∀ (j : Nat) (a : Int) (z : Thread), (c.at_.set t s.to)[j]? = some a → p.threads[j]? = some z → -1 ≤ a ∧ a < z.points ∧ (a = -1 → z.asleep = true) := by
      intro j a z ha hz
      rw [List.getElem?_set] at ha
      split at ha
      · rename_i hj
        split at ha
        · cases ha
          subst hj
          rw [hx] at hz; cases hz
          have := hok.to
          exact ⟨by omega, by omega, by omega⟩
        · simp at ha
      · exact hc.at_ j a z ha hz
    intro j a z ha hz
    simp only [execS] at ha
    split at ha
    · rw [List.getElem?_set] at ha
      split at ha
      · split at ha
        · cases ha
          have := points_bound hf hz
          exact ⟨by omega, by omega, by omega⟩
        · simp at ha
      · exact key j a z ha hz
    · exact key j a z ha hz
  · intro b hb
    simp only [execS, List.mem_map] at hb
    obtain ⟨_, _, rfl⟩ := hb
    rfl
/-- What a choice that is offered leads to. -/
theorem next_ok {p : Prog} (hf : formedM p = true) {c : Config} (hc : isM p c = true) {y : Choice} (hy : y ∈ choicesM p c) :
    ∃ (t : Nat) (x : Thread) (i : Nat) (s : Step), p.threads[t]? = some x ∧ x.steps[i]? = some s ∧ enabledM p c t s = true ∧ y = ⟨t, i, 0⟩ ∧ nextM p c y = (execS p c t s, 0) ∧ isM p (execS p c t s) = true := by
  obtain ⟨t, x, i, s, hx, hs, he, rfl⟩ := choices_mem.1 hy
  refine ⟨t, x, i, s, hx, hs, he, rfl, ?_, exec_is hf hc hx hs⟩
  rw [nextM, hf, hc]
  simp only [Bool.and_self, if_true, (hasM_iff _ _).2 hy]
  simp [execM, stepAt, hx, hs]
theorem pick_mem {l : List Choice} (h : l ≠ []) (k : Int) : pickAt l k ∈ l := by
  have hl : 0 < l.length := List.length_pos_iff.2 h
  have : k.toNat % l.length < l.length := Nat.mod_lt _ hl
  rw [pickAt, List.getD_eq_getElem?_getD, List.getElem?_eq_getElem this]
  exact List.getElem_mem _
theorem enabledL_eq {p : Prog} (hf : formedM p = true) {c : Config} (hc : isM p c = true) : enabledL p c = choicesM p c := by
  rw [enabledL, hf, hc]; rfl
theorem walkGo_is {p : Prog} (hf : formedM p = true) : ∀ (l : List Int) (c : Config), isM p c = true → isM p (walkGo p c l) = true
  | [], c, h => h
  | k :: r, c, h => by
    rw [walkGo]
    split
    · exact h
    · rename_i hne
      have hm := pick_mem hne k
      rw [enabledL_eq hf h] at hm
      obtain ⟨t, x, i, s, hx, hs, he, hy, hn, hi⟩ := next_ok hf h hm
      rw [enabledL_eq hf h, hn]
      exact walkGo_is hf r _ hi
theorem walk_is {p : Prog} (hf : formedM p = true) (l : List Int) : isM p (walkM p l) = true := walkGo_is hf l _ (start_is hf)
end Rg
end
section
/- Rh: package expr: copies of expressions. No condition. -/
set_option linter.unusedSimpArgs false
set_option linter.unusedVariables false
namespace Rg
open Go
namespace Expr
mutual
/-- The expression whose nodes without kids are replaced. -/
def mapL (f : Expr → Expr) : Expr → Expr
  | .mk o w n [] => f (.mk o w n [])
  | .mk o w n (k :: ks) => .mk o w n (mapL f k :: mapLs f ks)
def mapLs (f : Expr → Expr) : List Expr → List Expr
  | [] => []
  | e :: r => mapL f e :: mapLs f r
end
theorem mapLs_eq (f : Expr → Expr) : ∀ l : List Expr, mapLs f l = l.map (mapL f)
  | [] => rfl
  | e :: r => by rw [mapLs, mapLs_eq f r]; rfl
theorem mapL_leaf {f : Expr → Expr} {e : Expr} (h : e.kids = []) : e.mapL f = f e := by
  obtain ⟨o, w, n, ks⟩ := e
  cases ks with
  | nil => rfl
  | cons k ks => simp [Expr.kids] at h
theorem mapL_node {f : Expr → Expr} {e : Expr} (h : e.kids ≠ []) : e.mapL f = .mk e.op e.w e.n (e.kids.map (mapL f)) := by
  obtain ⟨o, w, n, ks⟩ := e
  cases ks with
  | nil => simp [Expr.kids] at h
  | cons k ks => rw [mapL, mapLs_eq]; rfl
end Expr
/-- The cells show an expression, by objects from lo to hi. -/
def Cut (h : Nat → Option O) (lo hi : Nat) (cs : List V) (e : Expr) : Prop :=
  ∃ x, cs = [.t (ti e.op), .t (ti e.w), .t (ti e.n), x] ∧ V.cells x = some [x] ∧
    ∀ h2 d, e.size ≤ d → (∀ k, lo ≤ k → k < hi → h2 k = h k) → toT h2 d x = some (.sl (e.kids.map Expr.enc))
theorem Cut.mono {h h' : Nat → Option O} {lo hi lo' hi' : Nat} {cs : List V} {e : Expr} (c : Cut h lo hi cs e) (h1 : lo' ≤ lo) (h2 : hi ≤ hi') (hh : ∀ k, lo ≤ k → k < hi → h' k = h k) : Cut h' lo' hi' cs e := by
  obtain ⟨x, hc, hx, ht⟩ := c
  exact ⟨x, hc, hx, fun g d hd hg => ht g d hd fun k k1 k2 => (hg k (by omega) (by omega)).trans (hh k k1 k2)⟩
theorem Cut.tree (h : Nat → Option O) (lo hi : Nat) (e : Expr) : Cut h lo hi [.t (ti e.op), .t (ti e.w), .t (ti e.n), .t (.sl (e.kids.map Expr.enc))] e :=
  ⟨_, rfl, rfl, fun _ d _ _ => by cases d <;> rfl⟩
theorem Cut.leaf (h : Nat → Option O) (lo hi : Nat) {e : Expr} (he : e.kids = []) : Cut h lo hi [.t (ti e.op), .t (ti e.w), .t (ti e.n), .t .nils] e :=
  ⟨_, rfl, rfl, fun _ d _ _ => by rw [he]; cases d <;> rfl⟩
theorem cut_rows {h h2 : Nat → Option O} {lo hi d : Nat} : ∀ (rows : List (List V)) (ks : List Expr), rows.length = ks.length → (∀ (j : Nat) r e, rows[j]? = some r → ks[j]? = some e → Cut h lo hi r e ∧ e.size ≤ d) →
    (∀ k, lo ≤ k → k < hi → h2 k = h k) → rows.mapM (fun row => row.mapM (toT h2 d)) = some (ks.map Expr.enc)
  | [], [], _, _, _ => rfl
  | [], _ :: _, hl, _, _ => by simp at hl
  | _ :: _, [], hl, _, _ => by simp at hl
  | r :: rows, e :: ks, hl, hj, hh => by
    have ih := cut_rows rows ks (by simpa using hl) (fun j r e h1 h2 => hj (j + 1) r e h1 h2) hh
    obtain ⟨⟨x, rfl, _, ht⟩, hd⟩ := hj 0 r e rfl rfl
    have h0 := ht h2 d hd hh
    have hn : ∀ n : Int, toT h2 d (.t (ti n)) = some (ti n) := fun n => by cases d <;> rfl
    rw [List.mapM_cons, ih]
    simp only [List.mapM_cons, List.mapM_nil, hn, h0, Option.pure_def, Option.bind_eq_bind, Option.bind_some, List.map_cons, Expr.enc_eq]
theorem Cut.node {h : Nat → Option O} {lo hi k : Nat} {rows : List (List V)} {o w n : Int} {ks : List Expr} {fz : Bool} {len : Nat} (hl : rows.length = ks.length) (hn : len = ks.length)
    (hr : ∀ (j : Nat) r e, rows[j]? = some r → ks[j]? = some e → Cut h lo hi r e) (hk : h k = some (.rows 4 rows fz)) (h1 : lo ≤ k) (h2 : k < hi) :
    Cut h lo hi [.t (ti o), .t (ti w), .t (ti n), .ms k 0 len] (.mk o w n ks) := by
  subst hn
  refine ⟨_, rfl, rfl, fun g d hd hg => ?_⟩
  obtain ⟨d, rfl⟩ : ∃ d', d = d' + 1 := ⟨d - 1, by have := Expr.size_pos (.mk o w n ks); omega⟩
  have hsz := Expr.size_eq (.mk o w n ks)
  have hrw := cut_rows (d := d) rows ks hl (fun j r e a b => ⟨hr j r e a b, by
    have hm : e ∈ ks := List.mem_of_getElem? b
    have := Expr.size_kid (e := .mk o w n ks) (k := e) hm
    omega⟩) hg
  rw [toT, hg k h1 h2, hk]
  simp only [rd, Nat.zero_add, ← hl, Nat.le_refl, if_true, List.drop_zero, Option.bind_eq_bind, Option.bind_some, List.take_length]
  rw [hrw]; rfl
/-- A function that copies a node without kids, or puts another expression into its place. -/
def LeafOf (g : Nat) (cp : List V) (n0 : Nat) {σ : Type} (I : σ → (Nat → Option O) → Prop) (step : σ → Expr → σ) (leaf : Expr → Expr) (lc : Expr → Bool) : Prop :=
  ∀ s h n v x, I s h → x.kids = [] → lc x = true → Sh h v x → n0 ≤ n →
    ∃ r h' n', DenR Γ G g (v :: cp) h n = some (r, h', n') ∧ (∃ cs, r = .agg cs ∧ Cut h' n n' cs (leaf x)) ∧ I (step s x) h' ∧ n ≤ n' ∧ ∀ k, n0 ≤ k → h' k = h k
theorem rebuild_den {σ : Type} (fv : V) (g : Nat) (cp : List V) (hfv : fnOf fv = some (g, [], cp)) (hvo : valOf fv = some fv) (n0 : Nat) (I : σ → (Nat → Option O) → Prop) (step : σ → Expr → σ) (leaf : Expr → Expr) (lc : Expr → Bool)
    (hI : ∀ s h h', I s h → (∀ k, k < n0 → h' k = h k) → I s h') (hstep : LeafOf g cp n0 I step leaf lc) :
    ∀ (e : Expr) (v : V) (s : σ) (h : Nat → Option O) (n : Nat), e.allE (fun x => lc x && decide (x.kids.length ≤ 3)) = true → I s h → n0 ≤ n → (∀ s h, I s h → Sh h v e) →
      ∃ r h' n', DenR Γ G 52 [v, fv] h n = some (r, h', n') ∧ (∃ cs, r = .agg cs ∧ Cut h' n n' cs (e.mapL leaf)) ∧ I (e.lv.foldl step s) h' ∧ n ≤ n' ∧ ∀ k, n0 ≤ k → k < n → h' k = h k := by
  intro e
  induction e using Expr.ind with
  | _ e ih =>
  intro v s H n hall hI0 hn hv
  have hself := Expr.allE_self hall
  simp only [Bool.and_eq_true, decide_eq_true_eq] at hself
  have hK := fnK_of hfv
  (refine denR_ofY Γ52 rfl ?_; dsimp only [f52])
  by_cases hk : e.kids = []
  · have hsh := hv s H hI0
    have hlv : e.lv = [e] := by rw [Expr.lv_eq, if_pos hk]
    rw [hlv, Expr.mapL_leaf hk]
    have hS : ∀ n, n0 ≤ n → _ := fun n hn => hstep s H n v e hI0 hk hself.1 hsh hn
    rcases hsh with rfl | ⟨k, fz, rfl, hkk⟩
    · simp only [hk, List.map_nil] at hS
      simp -dsimp -implicitDefEqProofs only [go_sem, seval, hk, hK, hvo]
      refine rawK_of (hS _ (by omega)) ?_
      rintro r h' n' ⟨⟨cs, rfl, x, rfl, hx, ht⟩, hI', hle, hkp⟩
      simp -dsimp -implicitDefEqProofs only [go_sem, seval, hx]
      exact ⟨⟨_, rfl, Cut.mono ⟨x, rfl, hx, ht⟩ (by omega) (by omega) (fun _ _ _ => rfl)⟩, hI', by omega, fun k k1 _ => hkp k k1⟩
    · simp -dsimp -implicitDefEqProofs only [go_sem, seval, hk, hK, hvo, hkk]
      refine rawK_of (hS _ (by omega)) ?_
      rintro r h' n' ⟨⟨cs, rfl, x, rfl, hx, ht⟩, hI', hle, hkp⟩
      simp -dsimp -implicitDefEqProofs only [go_sem, seval, hx]
      exact ⟨⟨_, rfl, Cut.mono ⟨x, rfl, hx, ht⟩ (by omega) (by omega) (fun _ _ _ => rfl)⟩, hI', by omega, fun k k1 _ => hkp k k1⟩
  · have hmap := Expr.mapL_node (f := leaf) hk
    have hlv : e.lv = e.kids.flatMap Expr.lv := by rw [Expr.lv_eq, if_neg hk]
    have hpos : ¬ e.kids.length = 0 := by simpa using hk
    have hpos' : ¬ (e.kids.length : Int) = 0 := by omega
    have hle : (e.kids.length : Int) ≤ 4294967296 := by omega
    rw [hlv, hmap]
    rcases hv s H hI0 with rfl | ⟨k, fz, rfl, hkk⟩
    · simp -dsimp -implicitDefEqProofs only [go_sem, seval, hpos', hle, Int.le_refl]
      refine loopYH 549739036736 e.kids.length (fun i f hh x => (f 24).v = vi i ∧ n + 1 + 6 + 5 < x ∧ ∃ rows : List (List V), rows.length = i ∧
        hh (n + 1 + 6 + 5) = some (.rows 4 (rows ++ List.replicate (e.kids.length - i) [V.t (T.int IntKind.i64 0), V.t (T.int IntKind.i64 0), V.t (T.int IntKind.i64 0), V.t T.nils]) false) ∧
        (∀ (j : Nat) r y, rows[j]? = some r → e.kids[j]? = some y → Cut hh (n + 1 + 6 + 5 + 1) x r (y.mapL leaf)) ∧ I (((e.kids.take i).flatMap Expr.lv).foldl step s) hh ∧ ∀ k, n0 ≤ k → k < n → hh k = H k) rfl
        ⟨by simp -dsimp -implicitDefEqProofs only [go_sem, seval], by simp -dsimp -implicitDefEqProofs only [go_sem, seval]; omega, [], rfl, by simp -dsimp -implicitDefEqProofs only [go_sem, seval]; simp, (fun j r y h => by simp at h), ?_, fun k k1 k2 => ?_⟩ ?_
      · simp -dsimp -implicitDefEqProofs only [go_sem, seval]
        simp only [List.take_zero, List.flatMap_nil, List.foldl_nil]
        exact hI _ _ _ hI0 fun k hk => by rw [updC_at, if_neg (by omega)]
      · simp -dsimp -implicitDefEqProofs only [go_sem, seval]
        rw [if_neg (by omega)]
      rintro i f u hh x bs hi ⟨h24, hx, rows, hrl, hrow, hcut, hI', hkp⟩
      have hwi := wrapS i (by omega)
      simp -dsimp -implicitDefEqProofs only [go_sem, seval, h24]
      refine csplit (fun h => ?_) (fun h => ?_) <;> (try simp only [bools] at h) <;> (try simp -dsimp -implicitDefEqProofs only [go_sem, seval, *])
      · obtain ⟨y, hy, hm⟩ := get_of ‹i < e.kids.length›
        have hlt : i < e.kids.length := ‹i < e.kids.length›
        simp -dsimp -implicitDefEqProofs only [go_sem, seval, h24, hy, hvo]
        refine rawK_of (ih y hm _ _ _ _ (Expr.allE_kid hall hm) hI' (by omega) (fun _ _ _ => .inl rfl)) ?_
        rintro r h' n' ⟨⟨cs, rfl, hc⟩, hI2, hle2, hkp2⟩
        have hc0 := hc
        obtain ⟨z, rfl, hz, _⟩ := hc0
        have hrow' := hkp2 (n + 1 + 6 + 5) (by omega) (by omega)
        rw [hrow] at hrow'
        have hget : (rows ++ List.replicate (e.kids.length - i) [V.t (T.int IntKind.i64 0), V.t (T.int IntKind.i64 0), V.t (T.int IntKind.i64 0), V.t T.nils])[i]? = some [V.t (T.int IntKind.i64 0), V.t (T.int IntKind.i64 0), V.t (T.int IntKind.i64 0), V.t T.nils] := by
          rw [List.getElem?_append_right (by omega), hrl, Nat.sub_self, List.getElem?_replicate, if_pos (by omega)]
        have hset : ∀ c : List V, (rows ++ List.replicate (e.kids.length - i) [V.t (T.int IntKind.i64 0), V.t (T.int IntKind.i64 0), V.t (T.int IntKind.i64 0), V.t T.nils]).set i c = (rows ++ [c]) ++ List.replicate (e.kids.length - (i + 1)) [V.t (T.int IntKind.i64 0), V.t (T.int IntKind.i64 0), V.t (T.int IntKind.i64 0), V.t T.nils] := by
          intro c
          rw [show e.kids.length - i = (e.kids.length - (i + 1)) + 1 by omega, List.replicate_succ, ← hrl, List.set_append_right _ _ (Nat.le_refl _), Nat.sub_self, List.set_cons_zero, List.append_assoc]; rfl
        simp -dsimp -implicitDefEqProofs only [go_sem, seval, h24, hrow', hget, hset, hlt]
        refine ⟨hlt, by simp -dsimp -implicitDefEqProofs only [go_sem, seval, hwi], by simp -dsimp -implicitDefEqProofs only [go_sem, seval]; omega, rows ++ [[V.t (ti (y.mapL leaf).op), V.t (ti (y.mapL leaf).w), V.t (ti (y.mapL leaf).n), z]], by simp [hrl], by simp -dsimp -implicitDefEqProofs only [go_sem, seval], ?_, ?_, ?_⟩
        · simp -dsimp -implicitDefEqProofs only [go_sem, seval]
          intro j r w hr hw
          by_cases hj : j < rows.length
          · rw [List.getElem?_append_left hj] at hr
            refine (hcut j r w hr hw).mono (Nat.le_refl _) (by omega) fun k k1 k2 => ?_
            rw [updC_at, if_neg (by omega)]
            exact hkp2 k (by omega) (by omega)
          · have hj2 : j = i := by
              have := (List.getElem?_eq_some_iff.1 hr).1
              simp at this; omega
            subst hj2
            rw [List.getElem?_append_right (by omega), hrl, Nat.sub_self] at hr
            simp only [List.getElem?_cons_zero, Option.some.injEq] at hr
            rw [hy] at hw
            simp only [Option.some.injEq] at hw
            subst hr hw
            refine hc.mono (by omega) (by omega) fun k k1 k2 => ?_
            rw [updC_at, if_neg (by omega)]
        · simp -dsimp -implicitDefEqProofs only [go_sem, seval]
          rw [take_succ_of hy, List.flatMap_append, List.foldl_append]
          simp only [List.flatMap_cons, List.flatMap_nil, List.append_nil]
          exact hI _ _ _ hI2 fun k hk => by rw [updC_at, if_neg (by omega)]
        · simp -dsimp -implicitDefEqProofs only [go_sem, seval]
          intro k k1 k2
          rw [if_neg (by omega), hkp2 k k1 (by omega)]
          exact hkp k k1 k2
      · have : i = e.kids.length := by omega
        subst this
        rw [List.take_length] at hI'
        rw [Nat.sub_self, List.replicate_zero, List.append_nil] at hrow
        have hxl : ∀ a b, x ≤ addC (addC x a) b := fun a b => Nat.le_trans (addC_le _ _) (addC_le _ _)
        refine ⟨⟨_, rfl, ?_⟩, hI', Nat.le_trans (by omega) (hxl _ _), hkp⟩
        refine Cut.node (rows := rows) (by simp [hrl]) (by simp) ?_ hrow (by omega) (Nat.lt_of_lt_of_le hx (hxl _ _))
        intro j r y h1 h2
        rw [List.getElem?_map, Option.map_eq_some_iff] at h2
        obtain ⟨y, hy, rfl⟩ := h2
        exact (hcut j r y h1 hy).mono (by omega) (hxl _ _) fun _ _ _ => rfl
    · simp -dsimp -implicitDefEqProofs only [go_sem, seval, hpos', hle, Int.le_refl, hkk]
      refine loopYH 549739036736 e.kids.length (fun i f hh x => (f 24).v = vi i ∧ n + 1 + 6 + 5 < x ∧ ∃ rows : List (List V), rows.length = i ∧
        hh (n + 1 + 6 + 5) = some (.rows 4 (rows ++ List.replicate (e.kids.length - i) [V.t (T.int IntKind.i64 0), V.t (T.int IntKind.i64 0), V.t (T.int IntKind.i64 0), V.t T.nils]) false) ∧
        (∀ (j : Nat) r y, rows[j]? = some r → e.kids[j]? = some y → Cut hh (n + 1 + 6 + 5 + 1) x r (y.mapL leaf)) ∧ I (((e.kids.take i).flatMap Expr.lv).foldl step s) hh ∧ ∀ k, n0 ≤ k → k < n → hh k = H k) rfl
        ⟨by simp -dsimp -implicitDefEqProofs only [go_sem, seval], by simp -dsimp -implicitDefEqProofs only [go_sem, seval]; omega, [], rfl, by simp -dsimp -implicitDefEqProofs only [go_sem, seval]; simp, (fun j r y h => by simp at h), ?_, fun q k1 k2 => ?_⟩ ?_
      · simp -dsimp -implicitDefEqProofs only [go_sem, seval]
        simp only [List.take_zero, List.flatMap_nil, List.foldl_nil]
        exact hI _ _ _ hI0 fun q hk => by rw [updC_at, if_neg (by omega)]
      · simp -dsimp -implicitDefEqProofs only [go_sem, seval]
        rw [if_neg (by omega)]
      rintro i f u hh x bs hi ⟨h24, hx, rows, hrl, hrow, hcut, hI', hkp⟩
      have hwi := wrapS i (by omega)
      have hkk2 : ∃ fz', hh k = some (.rows 4 [[.t (ti e.op), .t (ti e.w), .t (ti e.n), .t (.sl (e.kids.map Expr.enc))]] fz') := by
        rcases hv _ _ hI' with h0 | ⟨k', fz', h0, hkk'⟩
        · cases h0
        · cases h0; exact ⟨fz', hkk'⟩
      obtain ⟨fz', hkk2⟩ := hkk2
      simp -dsimp -implicitDefEqProofs only [go_sem, seval, h24]
      refine csplit (fun h => ?_) (fun h => ?_) <;> (try simp only [bools] at h) <;> (try simp -dsimp -implicitDefEqProofs only [go_sem, seval, *])
      · obtain ⟨y, hy, hm⟩ := get_of ‹i < e.kids.length›
        have hlt : i < e.kids.length := ‹i < e.kids.length›
        simp -dsimp -implicitDefEqProofs only [go_sem, seval, h24, hy, hvo, hkk2]
        refine rawK_of (ih y hm _ _ _ _ (Expr.allE_kid hall hm) hI' (by omega) (fun _ _ _ => .inl rfl)) ?_
        rintro r h' n' ⟨⟨cs, rfl, hc⟩, hI2, hle2, hkp2⟩
        have hc0 := hc
        obtain ⟨z, rfl, hz, _⟩ := hc0
        have hrow' := hkp2 (n + 1 + 6 + 5) (by omega) (by omega)
        rw [hrow] at hrow'
        have hget : (rows ++ List.replicate (e.kids.length - i) [V.t (T.int IntKind.i64 0), V.t (T.int IntKind.i64 0), V.t (T.int IntKind.i64 0), V.t T.nils])[i]? = some [V.t (T.int IntKind.i64 0), V.t (T.int IntKind.i64 0), V.t (T.int IntKind.i64 0), V.t T.nils] := by
          rw [List.getElem?_append_right (by omega), hrl, Nat.sub_self, List.getElem?_replicate, if_pos (by omega)]
        have hset : ∀ c : List V, (rows ++ List.replicate (e.kids.length - i) [V.t (T.int IntKind.i64 0), V.t (T.int IntKind.i64 0), V.t (T.int IntKind.i64 0), V.t T.nils]).set i c = (rows ++ [c]) ++ List.replicate (e.kids.length - (i + 1)) [V.t (T.int IntKind.i64 0), V.t (T.int IntKind.i64 0), V.t (T.int IntKind.i64 0), V.t T.nils] := by
          intro c
          rw [show e.kids.length - i = (e.kids.length - (i + 1)) + 1 by omega, List.replicate_succ, ← hrl, List.set_append_right _ _ (Nat.le_refl _), Nat.sub_self, List.set_cons_zero, List.append_assoc]; rfl
        simp -dsimp -implicitDefEqProofs only [go_sem, seval, h24, hrow', hget, hset, hlt]
        refine ⟨hlt, by simp -dsimp -implicitDefEqProofs only [go_sem, seval, hwi], by simp -dsimp -implicitDefEqProofs only [go_sem, seval]; omega, rows ++ [[V.t (ti (y.mapL leaf).op), V.t (ti (y.mapL leaf).w), V.t (ti (y.mapL leaf).n), z]], by simp [hrl], by simp -dsimp -implicitDefEqProofs only [go_sem, seval], ?_, ?_, ?_⟩
        · simp -dsimp -implicitDefEqProofs only [go_sem, seval]
          intro j r w hr hw
          by_cases hj : j < rows.length
          · rw [List.getElem?_append_left hj] at hr
            refine (hcut j r w hr hw).mono (Nat.le_refl _) (by omega) fun q k1 k2 => ?_
            rw [updC_at, if_neg (by omega)]
            exact hkp2 q (by omega) (by omega)
          · have hj2 : j = i := by
              have := (List.getElem?_eq_some_iff.1 hr).1
              simp at this; omega
            subst hj2
            rw [List.getElem?_append_right (by omega), hrl, Nat.sub_self] at hr
            simp only [List.getElem?_cons_zero, Option.some.injEq] at hr
            rw [hy] at hw
            simp only [Option.some.injEq] at hw
            subst hr hw
            refine hc.mono (by omega) (by omega) fun q k1 k2 => ?_
            rw [updC_at, if_neg (by omega)]
        · simp -dsimp -implicitDefEqProofs only [go_sem, seval]
          rw [take_succ_of hy, List.flatMap_append, List.foldl_append]
          simp only [List.flatMap_cons, List.flatMap_nil, List.append_nil]
          exact hI _ _ _ hI2 fun q hk => by rw [updC_at, if_neg (by omega)]
        · simp -dsimp -implicitDefEqProofs only [go_sem, seval]
          intro q k1 k2
          rw [if_neg (by omega), hkp2 q k1 (by omega)]
          exact hkp q k1 k2
      · have : i = e.kids.length := by omega
        subst this
        rw [List.take_length] at hI'
        rw [Nat.sub_self, List.replicate_zero, List.append_nil] at hrow
        (try simp -dsimp -implicitDefEqProofs only [go_sem, seval, h24, hkk2])
        have hxl : ∀ a b, x ≤ addC (addC x a) b := fun a b => Nat.le_trans (addC_le _ _) (addC_le _ _)
        refine ⟨⟨_, rfl, ?_⟩, hI', Nat.le_trans (by omega) (hxl _ _), hkp⟩
        refine Cut.node (rows := rows) (by simp [hrl]) (by simp) ?_ hrow (by omega) (Nat.lt_of_lt_of_le hx (hxl _ _))
        intro j r y h1 h2
        rw [List.getElem?_map, Option.map_eq_some_iff] at h2
        obtain ⟨y, hy, rfl⟩ := h2
        exact (hcut j r y h1 hy).mono (by omega) (hxl _ _) fun _ _ _ => rfl
end Rg
end
section
/- Rh: package expr: copies of expressions, second part; substitution. No condition. -/
set_option linter.unusedSimpArgs false
set_option linter.unusedVariables false
namespace Rg
open Go
theorem copyN_den (h : Nat → Option O) (n : Nat) (v : V) (e : Expr) (hs : Sh h v e) :
    ∃ r h' n', DenR Γ G 54 [v] h n = some (r, h', n') ∧ (r = .agg [.t (ti e.op), .t (ti e.w), .t (ti e.n), .t .nils] ∧ h' = h ∧ n ≤ n') := by
  (refine denR_ofY Γ54 rfl ?_; dsimp only [f54])
  rcases hs with rfl | ⟨k, fz, rfl, hkk⟩
  · simp -dsimp -implicitDefEqProofs only [go_sem, seval]
    exact ⟨rfl, rfl, Nat.le_trans (addC_le _ _) (addC_le _ _)⟩
  · simp -dsimp -implicitDefEqProofs only [go_sem, seval, hkk]
    exact ⟨rfl, rfl, Nat.le_trans (addC_le _ _) (addC_le _ _)⟩
theorem mapL_same (e : Expr) : e.mapL (fun x => x) = e := by
  induction e using Expr.ind with
  | _ e ih =>
  by_cases hk : e.kids = []
  · exact Expr.mapL_leaf hk
  · rw [Expr.mapL_node hk]
    have : e.kids.map (Expr.mapL fun x => x) = e.kids := by
      have := List.map_congr_left (f := Expr.mapL fun x => x) (g := id) (l := e.kids) fun k hk => ih k hk
      simpa using this
    rw [this]
    obtain ⟨o, w, n, ks⟩ := e
    rfl
theorem clone_den (e : Expr) (hf : e.formed = true) : Den Γ G 55 [(.agg [.t (ti (e).op), .t (ti (e).w), .t (ti (e).n), .t (.sl ((e).kids.map (Expr.enc)))])] = some (.agg [.t (ti (e).op), .t (ti (e).w), .t (ti (e).n), .t (.sl ((e).kids.map (Expr.enc)))]) := by
  (refine den_ofY Γ55 rfl ?_; dsimp only [f55])
  simp -dsimp -implicitDefEqProofs only [go_sem, seval]
  have hsz : e.size ≤ 1000 := by
    simp only [Expr.formed, Bool.and_eq_true, decide_eq_true_eq] at hf; omega
  refine rawK_of (rebuild_den (σ := Unit) (.t (.fn 54 [] [])) 54 [] rfl rfl 1 (fun _ h => h 0 = some (.rows 4 [[.t (ti e.op), .t (ti e.w), .t (ti e.n), .t (.sl (e.kids.map Expr.enc))]] false)) (fun s _ => s) (fun x => x) lcS
    (fun s h h' hI hk => (hk 0 (by omega)).trans hI) ?_ e _ () _ _ (deep_lcS 40 e (formed_deep hf)) (by simp -dsimp -implicitDefEqProofs only [go_sem, seval]) (by omega) (fun s h hI => .inr ⟨0, false, rfl, hI⟩)) ?_
  · intro s h n v x hI hk _ hs hn
    obtain ⟨r, h', n', hd, rfl, rfl, hle⟩ := copyN_den h n v x hs
    exact ⟨_, _, _, hd, ⟨_, rfl, Cut.leaf _ _ _ hk⟩, hI, hle, fun _ _ => rfl⟩
  · rintro r h' n' ⟨⟨cs, rfl, x, rfl, hx, ht⟩, hI', hle, hkp⟩
    rw [mapL_same] at ht ⊢
    have h1 := ht h' 1000 hsz fun _ _ _ => rfl
    simp -dsimp -implicitDefEqProofs only [go_sem, seval, hx, h1]
theorem rd_blk {α : Type} (k : Nat) : ∀ (L : List (List α)) (c : Nat) (b : List α), (∀ l ∈ L, l.length = k) → L[c]? = some b → rd L.flatten (c * k) k = some b
  | [], c, b, _, h => by simp at h
  | l :: L, 0, b, hl, h => by
    simp only [List.getElem?_cons_zero, Option.some.injEq] at h
    subst h
    have := hl l (by simp)
    simp [rd, this]
  | l :: L, c + 1, b, hl, h => by
    have ih := rd_blk k L c b (fun x hx => hl x (by simp [hx])) h
    have hlk := hl l (by simp)
    unfold rd at ih ⊢
    have e1 : (l :: L).flatten.length = k + L.flatten.length := by simp [hlk]
    have e2 : (c + 1) * k = k + c * k := by rw [Nat.succ_mul]; omega
    rw [e1, e2]
    split at ih
    · rename_i hle
      rw [if_pos (by omega)]
      rw [← ih, List.flatten_cons, List.drop_append, hlk]
      rw [List.drop_of_length_le (by omega), List.nil_append, show k + c * k - k = c * k by omega]
    · cases ih
theorem wr_blk {α : Type} (k : Nat) : ∀ (L : List (List α)) (c : Nat) (b : List α), (∀ l ∈ L, l.length = k) → c < L.length → b.length = k → wr L.flatten (c * k) b = some (L.set c b).flatten
  | [], c, b, _, h, _ => by simp at h
  | l :: L, 0, b, hl, h, hb => by
    have := hl l (by simp)
    simp [wr, this, hb]
  | l :: L, c + 1, b, hl, h, hb => by
    have ih := wr_blk k L c b (fun x hx => hl x (by simp [hx])) (by simpa using h) hb
    have hlk := hl l (by simp)
    unfold wr at ih ⊢
    have e1 : (l :: L).flatten.length = k + L.flatten.length := by simp [hlk]
    have e2 : (c + 1) * k = k + c * k := by rw [Nat.succ_mul]; omega
    rw [e1, e2]
    split at ih
    · rename_i hle
      rw [if_pos (by omega)]
      simp only [Option.some.injEq] at ih ⊢
      rw [List.set_cons_succ, List.flatten_cons, List.flatten_cons, ← ih, List.take_append, List.drop_append, hlk]
      rw [List.take_of_length_le (by omega), List.drop_of_length_le (by omega), show k + c * k - k = c * k by omega, show k + c * k + b.length - k = c * k + b.length by omega]
      simp
    · cases ih
end Rg
end
