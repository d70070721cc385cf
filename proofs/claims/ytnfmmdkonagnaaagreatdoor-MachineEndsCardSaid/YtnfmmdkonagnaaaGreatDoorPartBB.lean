/- Part of the proof of the laws of the package relyguardlaw11: an abstract machine for the program's functions, what they compute, and that the machine is the program's. No condition. (H11u) -/
import Derived.Test.YtnfmmdkonagnaaaGreatDoorPartBA
section
/- Rh: layer 11: the second law. No condition. -/
set_option linter.unusedSimpArgs false
set_option linter.unusedVariables false
namespace Rg
open Go
theorem eqb_tt : ((true == true) != false) = true := rfl
theorem eqb_ff : ((false == false) != false) = true := rfl
theorem law2_den (p : Prog) (hl : p.lite) (picks : List Int) (hpk : ∀ k ∈ picks, 0 ≤ k ∧ k < 256) (x : Choice) :
    Den Γ G 2 [(.agg [.t (.sl ((p).cells.map (Cell.enc))), .t (.sl ((p).modules.map (Contract.enc))), .t (.sl ((p).locks.map (Lock.enc))), .t (.sl ((p).threads.map (Thread.enc)))]), .t (bytesT picks), (.agg [.t (ti (x).thread), .t (ti (x).step), .t (ti (x).cell)])] = some (vb true) := by
  (refine den_ofY Γ2 rfl ?_; dsimp only [f2])
  have h1 := good_den p hl
  have hlb : (picks.map fun n => [T.int .u8 n]).length = picks.length := by simp
  simp -dsimp -implicitDefEqProofs only [go_sem, seval, head_den, h1]
  cases hg : goodM p
  · simp -dsimp -implicitDefEqProofs only [go_sem, seval]
  · simp -dsimp -implicitDefEqProofs only [go_sem, seval, hlb]
    by_cases hlen : picks.length ≤ 40
    · have hlen' : decide ((picks.length : Int) > 40) = false := by simp; omega
      simp only [goodM, Bool.and_eq_true] at hg
      obtain ⟨hf, hfo⟩ := hg
      have hs := few_sane hl hf
      have a5 := walkR_den p hs picks hpk hlen
      have hc := walk_sane hs picks
      have hi := walk_is hfo picks
      generalize walkM p picks = c at *
      have a1 := enabledPL_den p hs c hc
      rw [enabledL_eq hfo hi] at a1
      have hel := enabled_len (p := p) c
      rw [enabledL_eq hfo hi] at hel
      simp -dsimp -implicitDefEqProofs only [go_sem, seval, hlen', a5, a1]
      refine loopY 9223372034707299392 (choicesM p c).length (fun i f => (f 10).v = vi i) rfl rfl (by simp -dsimp -implicitDefEqProofs only [go_sem, seval]) ?_
      rintro i f u kk bb hi10 h10
      have hw := wrapS i (by omega)
      simp -dsimp -implicitDefEqProofs only [go_sem, seval, h10]
      refine csplit (fun h => ?_) (fun h => ?_) <;> (try rw [h]) <;> (try simp only [bools] at h) <;> (try simp -dsimp -implicitDefEqProofs only [go_sem, seval, h10])
      · obtain ⟨y, hy, hym⟩ := get_of ‹i < (choicesM p c).length›
        obtain ⟨t, z, j, s, hz, hsj, he, rfl, hn, hd⟩ := next_ok hfo hi hym
        have b1 := nextP_den p hs c hc ⟨t, j, 0⟩
        have hds := next_sane hs hc ⟨t, j, 0⟩
        rw [hn] at b1 hds
        have b2 := isR_den p hfo _ hds
        rw [hd] at b2
        simp -dsimp -implicitDefEqProofs only [go_sem, seval, h10, hy, b1, b2]
        exact ⟨by omega, by simp -dsimp -implicitDefEqProofs only [go_sem, seval, hw]⟩
      · have b1 := nextP_den p hs c hc x
        have b3 := has_den (choicesM p c) x (by omega)
        by_cases hx : x ∈ choicesM p c
        · rw [(hasM_iff _ _).2 hx] at b3
          obtain ⟨t, z, j, s, hz, hsj, he, rfl, hn, hd⟩ := next_ok hfo hi hx
          rw [hn] at b1
          simp -dsimp -implicitDefEqProofs only [go_sem, seval, h10, b1, b3, eqb_tt, eqb_ff]
        · have hno : hasM (choicesM p c) x = false := by rw [← Bool.not_eq_true, hasM_iff]; exact hx
          rw [hno] at b3
          rw [next_no hfo hi hx] at b1
          simp only [zeroC, List.map_nil] at b1
          simp -dsimp -implicitDefEqProofs only [go_sem, seval, h10, b1, b3, eqb_tt, eqb_ff]
    · have hlen' : decide ((picks.length : Int) > 40) = true := by simp; omega
      simp -dsimp -implicitDefEqProofs only [go_sem, seval, hlen']
end Rg
end
