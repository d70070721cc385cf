/- Part of the proof of the laws of the package relyguardlaw11: an abstract machine for the program's functions, what they compute, and that the machine is the program's. No condition. (H11s) -/
import Derived.Test.YtnfmmdkonagnaaaGreatDoorPartAY
section
/- Rh: layer 11: the first law. No condition. -/
set_option linter.unusedSimpArgs false
set_option linter.unusedVariables false
namespace Rg
open Go
theorem walkGo_sane {p : Prog} (hs : p.sane) : ∀ (l : List Int) (c : Config), c.sane → (walkGo p c l).sane
  | [], c, h => h
  | k :: r, c, h => by
    rw [walkGo]
    split
    · exact h
    · exact walkGo_sane hs r _ (next_sane hs h _)
theorem walk_sane {p : Prog} (hs : p.sane) (l : List Int) : (walkM p l).sane := walkGo_sane hs l _ (start_sane hs)
theorem small_sane {c : Config} {l : List Int} (h : smallM c l = true) : c.sane ∧ l.length ≤ 40 := by
  simp only [smallM, Bool.and_eq_true, decide_eq_true_eq] at h
  exact ⟨⟨by omega, by omega, by omega⟩, by omega⟩
theorem start_buf {p : Prog} : ∀ l ∈ (startM p).buf, entriesSane l := by
  unfold startM
  split
  · intro l hl
    simp only [List.mem_map] at hl
    obtain ⟨_, _, rfl⟩ := hl
    exact ⟨by simp, by simp⟩
  · intro l hl; simp at hl
theorem law1_den (p : Prog) (hl : p.lite) (picks : List Int) (hpk : ∀ k ∈ picks, 0 ≤ k ∧ k < 256) (c : Config) (x : Choice) :
    Den Γ G 1 [(.agg [.t (.sl ((p).cells.map (Cell.enc))), .t (.sl ((p).modules.map (Contract.enc))), .t (.sl ((p).locks.map (Lock.enc))), .t (.sl ((p).threads.map (Thread.enc)))]), .t (bytesT picks), (.agg [.t (ints (c).mem), .t (ints (c).at_), .t (.sl ((c).buf.map (fun b => [.sl (b.map Entry.enc)])))]), (.agg [.t (ti (x).thread), .t (ti (x).step), .t (ti (x).cell)])] = some (vb true) := by
  (refine den_ofY Γ1 rfl ?_; dsimp only [f1])
  have h1 := fewM_den p hl.steps
  have h2 := smallC_den c picks
  simp -dsimp -implicitDefEqProofs only [go_sem, seval, head_den, h1]
  cases hf : fewM p
  · simp -dsimp -implicitDefEqProofs only [go_sem, seval]
  · simp -dsimp -implicitDefEqProofs only [go_sem, seval, h2]
    cases hm : smallM c picks
    · simp -dsimp -implicitDefEqProofs only [go_sem, seval]
    · have hs := few_sane hl hf
      obtain ⟨hc, hlen⟩ := small_sane hm
      have a1 := startP_den p hs
      have a2 := startR_den p hs
      have a3 := same_den (startM p) (startM p) (start_sane hs) start_buf
      rw [decide_eq_true rfl] at a3
      have a4 := sameP_den p hs c hc x
      have a5 := walkR_den p hs picks hpk hlen
      have a6 := sameP_den p hs (walkM p picks) (walk_sane hs picks) x
      simp -dsimp -implicitDefEqProofs only [go_sem, seval, a1, a2, a3, a4, a5, a6]
end Rg
end
