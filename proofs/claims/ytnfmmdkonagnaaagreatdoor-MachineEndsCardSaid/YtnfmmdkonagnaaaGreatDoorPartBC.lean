/- Part of the proof of the laws of the package relyguardlaw11: an abstract machine for the program's functions, what they compute, and that the machine is the program's. No condition. (H11v) -/
import Derived.Test.YtnfmmdkonagnaaaGreatDoorPartBB
section
/- Rh: layer 11: the seventh law. No condition. -/
set_option linter.unusedSimpArgs false
set_option linter.unusedVariables false
namespace Rg
open Go
def endQ (q : Int × Thread) : Bool := decide (q.1 = -1) || decide (q.1 = q.2.points - 1)
theorem doneM_is {p : Prog} (hf : formedM p = true) {c : Config} (hc : isM p c = true) : doneM p c = (c.at_.zip p.threads).all endQ := by
  rw [doneM, hf, hc]; rfl
/-- No step is enabled where every thread is asleep or at its exit. -/
theorem ends_none {p : Prog} (hf : formedM p = true) {c : Config} (hc : isM p c = true) (h : (c.at_.zip p.threads).all endQ = true) : (choicesM p c).length = 0 := by
  rw [List.length_eq_zero_iff, List.eq_nil_iff_forall_not_mem]
  intro y hy
  obtain ⟨t, x, i, s, hx, hs, he, rfl⟩ := choices_mem.1 hy
  have hok := formed_step hf hx hs
  have htl := (List.getElem?_eq_some_iff.1 hx).1
  obtain ⟨a, ha, _⟩ := get_of (show t < c.at_.length by have := (is_len hc).2.1; omega)
  have := zip_all.1 h t a x ha hx
  simp only [enabledM, Bool.and_eq_true, decide_eq_true_eq] at he
  rw [atI_get (by simpa using ha)] at he
  simp only [endQ, Bool.or_eq_true, decide_eq_true_eq] at this
  have := hok.fr
  omega
theorem law7_den (p : Prog) (hl : p.lite) (picks : List Int) (hpk : ∀ k ∈ picks, 0 ≤ k ∧ k < 256) :
    Den Γ G 3 [(.agg [.t (.sl ((p).cells.map (Cell.enc))), .t (.sl ((p).modules.map (Contract.enc))), .t (.sl ((p).locks.map (Lock.enc))), .t (.sl ((p).threads.map (Thread.enc)))]), .t (bytesT picks)] = some (vb true) := by
  (refine den_ofY Γ3 rfl ?_; dsimp only [f3])
  have h1 := good_den p hl
  have hlb : (picks.map fun n => [T.int .u8 n]).length = picks.length := by simp
  simp -dsimp -implicitDefEqProofs only [go_sem, seval, head_den, h1]
  cases hg : goodM p
  · simp -dsimp -implicitDefEqProofs only [go_sem, seval]
  · simp -dsimp -implicitDefEqProofs only [go_sem, seval, hlb]
    by_cases hlen : picks.length ≤ 40
    · have hlen' : decide ((picks.length : Int) > 40) = false := by simp; omega
      simp only [goodM, Bool.and_eq_true] at hg
      obtain ⟨hf, hfo⟩ := hg
      have hs := few_sane hl hf
      have a5 := walkR_den p hs picks hpk hlen
      have hc := walk_sane hs picks
      have hi := walk_is hfo picks
      generalize walkM p picks = c at *
      have hle := (is_len hi).2.1
      have a1 := enabledPL_den p hs c hc
      rw [enabledL_eq hfo hi] at a1
      have hel := enabled_len (p := p) c
      rw [enabledL_eq hfo hi] at hel
      simp -dsimp -implicitDefEqProofs only [go_sem, seval, hlen', a5, a1]
      refine loopY 4722366482869510996240 (choicesM p c).length (fun i f => (f 8).v = vi i) rfl rfl (by simp -dsimp -implicitDefEqProofs only [go_sem, seval]) ?_
      rintro i f u kk bb hi8 h8
      have hw := wrapS i (by omega)
      simp -dsimp -implicitDefEqProofs only [go_sem, seval, h8]
      refine csplit (fun h => ?_) (fun h => ?_) <;> (try rw [h]) <;> (try simp only [bools] at h) <;> (try simp -dsimp -implicitDefEqProofs only [go_sem, seval, h8])
      · obtain ⟨y, hy, hym⟩ := get_of ‹i < (choicesM p c).length›
        obtain ⟨t, x, j, s, hx, hsj, he, rfl⟩ := choices_mem.1 hym
        have hok := formed_step hfo hx hsj
        have hpt := points_bound hfo hx
        have htl := (List.getElem?_eq_some_iff.1 hx).1
        obtain ⟨a, ha, _⟩ := get_of (show t < c.at_.length by omega)
        simp only [enabledM, Bool.and_eq_true, decide_eq_true_eq] at he
        rw [atI_get (by simpa using ha)] at he
        have hfr := hok.fr
        have b1 := exitR_den p c t x a (by omega) (by simpa using ha) (by simpa using hx) (by omega)
        have c1 : decide ((t : Int) < 0) = false := by simp
        have c2 : decide ((t : Int) ≥ (c.at_.length : Int)) = false := by simp; omega
        have c3 : decide (a < 0) = false := by simp; omega
        have c4 : decide (a = x.points - 1) = false := by simp; omega
        have c5 : t < c.at_.length := by omega
        rw [c4] at b1
        simp -dsimp -implicitDefEqProofs only [go_sem, seval, h8, hy, c1, c2, c3, c5, ha, b1]
        exact ⟨by omega, by simp -dsimp -implicitDefEqProofs only [go_sem, seval, hw]⟩
      · clear h8 hw
        have hcs := hc.at_
        refine loopY 19807035906199601528740775424 c.at_.length (fun i f => (f 10).v = vi i ∧ ∃ e, (f 9).v = vb e ∧ (c.at_.zip p.threads).all endQ = (e && ((c.at_.zip p.threads).drop i).all endQ)) rfl rfl ⟨by simp -dsimp -implicitDefEqProofs only [go_sem, seval], true, by simp -dsimp -implicitDefEqProofs only [go_sem, seval], by rw [List.drop_zero]; rfl⟩ ?_
        rintro k f' u' kk' bb' hk ⟨h10, e, h9, hall⟩
        have hw := wrapS k (by omega)
        simp -dsimp -implicitDefEqProofs only [go_sem, seval, h10, h9]
        refine csplit (fun h => ?_) (fun h => ?_) <;> (try rw [h]) <;> (try simp only [bools] at h) <;> (try simp -dsimp -implicitDefEqProofs only [go_sem, seval, h10])
        · obtain ⟨a, ha, _⟩ := get_of ‹k < c.at_.length›
          obtain ⟨x, hx, hxm⟩ := get_of (show k < p.threads.length by omega)
          have hpt := points_bound hfo hx
          have hat := (is_iff.1 hi).at_ k a x ha hx
          have b1 := exitR_den p c k x a (by omega) (by simpa using ha) (by simpa using hx) (by omega)
          have hz := zip_get ha hx
          rw [drop_of hz, List.all_cons] at hall
          cases e
          · simp -dsimp -implicitDefEqProofs only [go_sem, seval, h10, h9]
            exact ⟨by omega, by simp -dsimp -implicitDefEqProofs only [go_sem, seval, hw], false, by simp -dsimp -implicitDefEqProofs only [go_sem, seval], by rw [hall]; simp⟩
          · simp -dsimp -implicitDefEqProofs only [go_sem, seval, h10, h9, ha]
            by_cases ha0 : a < 0
            · have : endQ (a, x) = true := by simp [endQ]; omega
              simp -dsimp -implicitDefEqProofs only [go_sem, seval, ha0, h10]
              exact ⟨by omega, by simp -dsimp -implicitDefEqProofs only [go_sem, seval, hw], true, by simp -dsimp -implicitDefEqProofs only [go_sem, seval], by rw [hall, this]; simp⟩
            · have : endQ (a, x) = decide (a = x.points - 1) := by simp [endQ]; omega
              simp -dsimp -implicitDefEqProofs only [go_sem, seval, ha0, b1, h10]
              exact ⟨by omega, by simp -dsimp -implicitDefEqProofs only [go_sem, seval, hw], decide (a = x.points - 1), by simp -dsimp -implicitDefEqProofs only [go_sem, seval], by rw [hall, this]; simp⟩
        · have hlz : (c.at_.zip p.threads).length = c.at_.length := by rw [List.length_zip]; omega
          rw [List.drop_of_length_le (by omega), List.all_nil, Bool.and_true] at hall
          have b2 := doneP_den p hs c hc
          rw [doneM_is hfo hi, hall] at b2
          cases e
          · simp -dsimp -implicitDefEqProofs only [go_sem, seval, h9, b2, eqb_ff]
          · have := ends_none hfo hi hall
            simp -dsimp -implicitDefEqProofs only [go_sem, seval, h9, b2, eqb_tt, this]
    · have hlen' : decide ((picks.length : Int) > 40) = true := by simp; omega
      simp -dsimp -implicitDefEqProofs only [go_sem, seval, hlen']
end Rg
end
