/- Part of the proof of the laws of the package relyguardlaw11: an abstract machine for the program's functions, what they compute, and that the machine is the program's. No condition. (H12c H12d H13a H13b) -/
import Derived.Test.YtnfmmdkonagnaaaGreatDoorPartAY
section
/- Rh: package expr: substitution. No condition. -/
set_option linter.unusedSimpArgs false
set_option linter.unusedVariables false
namespace Rg
open Go
/-- The expression that a list of assignments gives to a cell. -/
def asg (set : List Assign) (c : Int) : Option Expr := (set.find? fun a => decide (a.cell = c)).map Assign.to
def cellsE : Option Expr → List V
  | none => [.t (ti 0), .t (ti 0), .t (ti 0), .t .nils]
  | some e => [.t (ti e.op), .t (ti e.w), .t (ti e.n), .t (.sl (e.kids.map Expr.enc))]
def fndL (set : List Assign) : List Bool := (List.range 32).map fun c : Nat => (asg set c).isSome
def blkL (set : List Assign) : List (List V) := (List.range 32).map fun c : Nat => cellsE (asg set c)
theorem fndL_len (set : List Assign) : (fndL set).length = 32 := by simp [fndL]
theorem blkL_len (set : List Assign) : (blkL set).length = 32 := by simp [blkL]
theorem blkL_all (set : List Assign) : ∀ l ∈ blkL set, l.length = 4 := by
  intro l hl
  obtain ⟨c, _, rfl⟩ := List.mem_map.1 hl
  cases asg set c <;> rfl
theorem fndL_get (set : List Assign) {c : Nat} (h : c < 32) : (fndL set)[c]? = some (asg set c).isSome := by
  simp [fndL, h]
theorem blkL_get (set : List Assign) {c : Nat} (h : c < 32) : (blkL set)[c]? = some (cellsE (asg set c)) := by
  simp [blkL, h]
/-- Is an expression one that a node can be replaced by? -/
def okTo (x t : Expr) : Bool := decide (t.w = x.w) && t.formed
def leafB (set : List Assign) (x : Expr) : Expr :=
  if x.op = 2 then (match asg set x.n with
    | none => x
    | some t => if okTo x t then t else x)
  else x
def goodB (set : List Assign) (x : Expr) : Bool :=
  if x.op = 2 then (match asg set x.n with
    | none => true
    | some t => okTo x t)
  else true
def IB (k2 k5 k6 k9 : Nat) (set : List Assign) (e : Expr) (g : Bool) (h : Nat → Option O) : Prop :=
  h k5 = some (.rows 32 [vbs (fndL set)] false) ∧ h k6 = some (.rows 128 [(blkL set).flatten] false) ∧ h k9 = some (.rows 1 [[vb g]] false) ∧
  h k2 = some (.rows 4 [[.t (ti e.op), .t (ti e.w), .t (ti e.n), .t (.sl (e.kids.map Expr.enc))]] false)
theorem sub1_den (k2 k5 k6 k9 n0 : Nat) (set : List Assign) (e : Expr) (h29 : k2 ≠ k9) (h59 : k5 ≠ k9) (h69 : k6 ≠ k9) (hn9 : k9 < n0) :
    LeafOf 53 [.mp k5 0 0, .mp k6 0 0, .mp k9 0 0] n0 (IB k2 k5 k6 k9 set e) (fun g x => g && goodB set x) (leafB set) lcS := by
  intro g H n v x hI hk hl hs hn
  simp only []
  have hcp := fun n => copyN_den H n v x hs
  obtain ⟨i5, i6, i9, i2⟩ := hI
  have hI : IB k2 k5 k6 k9 set e g H := ⟨i5, i6, i9, i2⟩
  simp only [lcS, decide_eq_true_eq] at hl
  obtain ⟨hn0, hop⟩ := hl
  have hop := hop hk
  have hsh : ∃ fz, v = .t (.ip [ti x.op, ti x.w, ti x.n, .sl (x.kids.map Expr.enc)]) ∨ ∃ k, v = .mp k 0 0 ∧ H k = some (.rows 4 [[.t (ti x.op), .t (ti x.w), .t (ti x.n), .t (.sl (x.kids.map Expr.enc))]] fz) := by
    rcases hs with h | ⟨k, fz, h1, h2⟩
    · exact ⟨false, .inl h⟩
    · exact ⟨fz, .inr ⟨k, h1, h2⟩⟩
  obtain ⟨fz, hsh⟩ := hsh
  by_cases ho : x.op = 2
  · have hlt : x.n < 32 := by omega
    have hlt' : x.n.toNat < 32 := by omega
    have hnn : ((x.n.toNat : Nat) : Int) = x.n := by omega
    have c1 : x.n.toNat * 1 ≤ 31 := by omega
    have v1 : (vbs (fndL set)).length = 32 := by simp [vbs, fndL_len]
    have v2 : (blkL set).flatten.length = 128 := by
      rw [List.length_flatten]
      have : (blkL set).map List.length = List.replicate 32 4 := by
        rw [List.eq_replicate_iff]
        exact ⟨by simp [blkL_len], fun n hn => by obtain ⟨l, hl, rfl⟩ := List.mem_map.1 hn; exact blkL_all set l hl⟩
      rw [this]; rfl
    have hf := fndL_get set hlt'
    have hb := rd_blk 4 (blkL set) x.n.toNat _ (blkL_all set) (blkL_get set hlt')
    rw [hnn] at hf hb
    have t1 : List.take 1 (List.drop (x.n.toNat * 1) (vbs (fndL set))) = [vb (asg set x.n).isSome] := by
      have hg : (vbs (fndL set))[x.n.toNat]? = some (vb (asg set x.n).isSome) := by simp [vbs, hf]
      obtain ⟨h1, h2⟩ := List.getElem?_eq_some_iff.1 hg
      rw [Nat.mul_one, List.drop_eq_getElem_cons h1, h2]; rfl
    have t4 : List.take 4 (List.drop (x.n.toNat * 4) (blkL set).flatten) = cellsE (asg set x.n) := by
      unfold rd at hb
      rw [if_pos (by omega)] at hb
      exact Option.some.inj hb
    have c4 : x.n.toNat * 4 + 4 ≤ 128 := by omega
    have c41 : x.n.toNat * 4 + 1 + 1 ≤ 128 := by omega
    have hoT : (x.op = 2) = True := eq_true ho
    have hI2 : ∀ h2, h2 = updC H k9 (some (.rows 1 [[vb false]] false)) → IB k2 k5 k6 k9 set e false h2 := by
      rintro _ rfl
      exact ⟨by rw [updC_at, if_neg h59]; exact i5, by rw [updC_at, if_neg h69]; exact i6, by rw [updC_at, if_pos rfl], by rw [updC_at, if_neg h29]; exact i2⟩
    have hI2 := hI2 _ rfl
    cases ha : asg set x.n with
    | none =>
      have hle : leafB set x = x := by simp [leafB, ha]
      have hgo : goodB set x = true := by simp [goodB, ha]
      rw [hle, hgo, Bool.and_true]
      rw [ha] at t1
      (refine denR_ofY Γ53 rfl ?_; dsimp only [f53])
      rcases hsh with rfl | ⟨k, rfl, hkk⟩
      · simp -dsimp -implicitDefEqProofs only [go_sem, seval, hoT, hn0, hlt, i5, v1, c1, t1, Option.isSome_none]
        refine rawK_of (hcp _) ?_
        rintro r h' n' ⟨rfl, rfl, hle⟩
        simp -dsimp -implicitDefEqProofs only [go_sem, seval]
        exact ⟨⟨_, rfl, Cut.leaf _ _ _ hk⟩, hI, by omega, fun _ _ => rfl⟩
      · simp -dsimp -implicitDefEqProofs only [go_sem, seval, hoT, hn0, hlt, i5, v1, c1, t1, Option.isSome_none, hkk]
        refine rawK_of (hcp _) ?_
        rintro r h' n' ⟨rfl, rfl, hle⟩
        simp -dsimp -implicitDefEqProofs only [go_sem, seval]
        exact ⟨⟨_, rfl, Cut.leaf _ _ _ hk⟩, hI, by omega, fun _ _ => rfl⟩
    | some t =>
      rw [ha] at t1 t4
      have t5 : List.take 1 (List.drop (x.n.toNat * 4 + 1) (blkL set).flatten) = [.t (ti t.w)] := by
        have e1 : List.drop (x.n.toNat * 4) (blkL set).flatten = cellsE (some t) ++ List.drop 4 (List.drop (x.n.toNat * 4) (blkL set).flatten) := by
          rw [← t4, List.take_append_drop]
        rw [← List.drop_drop, e1]; rfl
      have t4' : List.take 4 (List.drop (x.n.toNat * 4) (blkL set).flatten) = [.t (ti t.op), .t (ti t.w), .t (ti t.n), .t (.sl (t.kids.map Expr.enc))] := t4
      have hwf := wellFormed_den t
      by_cases hok : okTo x t = true
      · have hle : leafB set x = t := by simp [leafB, ha, ho, hok]
        have hgo : goodB set x = true := by simp [goodB, ha, hok]
        rw [hle, hgo, Bool.and_true]
        simp only [okTo, Bool.and_eq_true, decide_eq_true_eq] at hok
        obtain ⟨hw, hfm⟩ := hok
        have hwT : (t.w = x.w) = True := eq_true hw
        have hcl := clone_den t hfm
        (refine denR_ofY Γ53 rfl ?_; dsimp only [f53])
        rcases hsh with rfl | ⟨k, rfl, hkk⟩
        · simp -dsimp -implicitDefEqProofs only [go_sem, seval, hoT, hn0, hlt, i5, v1, c1, t1, Option.isSome_some, i6, v2, c4, c41, t5, t4', hwf, hwT, hfm, hcl]
          exact ⟨⟨_, rfl, Cut.tree _ _ _ _⟩, hI, Nat.le_trans (addC_le _ _) (Nat.le_trans (addC_le _ _) (Nat.le_trans (addC_le _ _) (addC_le _ _))), fun _ _ => rfl⟩
        · simp -dsimp -implicitDefEqProofs only [go_sem, seval, hoT, hn0, hlt, i5, v1, c1, t1, Option.isSome_some, i6, v2, c4, c41, t5, t4', hwf, hwT, hfm, hcl, hkk]
          exact ⟨⟨_, rfl, Cut.tree _ _ _ _⟩, hI, Nat.le_trans (addC_le _ _) (Nat.le_trans (addC_le _ _) (Nat.le_trans (addC_le _ _) (addC_le _ _))), fun _ _ => rfl⟩
      · have hle : leafB set x = x := by simp [leafB, ha, hok]
        have hgo : goodB set x = false := by simp [goodB, ha, ho]; simpa using hok
        rw [hle, hgo, Bool.and_false]
        have hs2 : Sh (updC H k9 (some (.rows 1 [[vb false]] false))) v x := by
          rcases hs with h | ⟨k, fz, h1, h2⟩
          · exact .inl h
          · refine .inr ⟨k, fz, h1, ?_⟩
            rw [updC_at, if_neg]
            · exact h2
            · rintro rfl
              rw [i9] at h2; simp at h2
        have hcp2 := fun n => copyN_den _ n v x hs2
        simp only [okTo, Bool.and_eq_true, decide_eq_true_eq] at hok
        by_cases hw : t.w = x.w
        · have hwT : (t.w = x.w) = True := eq_true hw
          have hfm : t.formed = false := by simpa [hw] using hok
          (refine denR_ofY Γ53 rfl ?_; dsimp only [f53])
          rcases hsh with rfl | ⟨k, rfl, hkk⟩
          · simp -dsimp -implicitDefEqProofs only [go_sem, seval, hoT, hn0, hlt, i5, v1, c1, t1, Option.isSome_some, i6, v2, c4, c41, t5, t4', hwf, i9, hwT, hfm]
            refine rawK_of (hcp2 _) ?_
            rintro r h' n' ⟨rfl, rfl, hle⟩
            simp -dsimp -implicitDefEqProofs only [go_sem, seval]
            exact ⟨⟨_, rfl, Cut.leaf _ _ _ hk⟩, hI2, by omega, fun q hq => by rw [updC_at, if_neg (by omega)]⟩
          · simp -dsimp -implicitDefEqProofs only [go_sem, seval, hoT, hn0, hlt, i5, v1, c1, t1, Option.isSome_some, i6, v2, c4, c41, t5, t4', hwf, i9, hwT, hfm, hkk]
            refine rawK_of (hcp2 _) ?_
            rintro r h' n' ⟨rfl, rfl, hle⟩
            simp -dsimp -implicitDefEqProofs only [go_sem, seval]
            exact ⟨⟨_, rfl, Cut.leaf _ _ _ hk⟩, hI2, by omega, fun q hq => by rw [updC_at, if_neg (by omega)]⟩
        · (refine denR_ofY Γ53 rfl ?_; dsimp only [f53])
          rcases hsh with rfl | ⟨k, rfl, hkk⟩
          · simp -dsimp -implicitDefEqProofs only [go_sem, seval, hoT, hn0, hlt, i5, v1, c1, t1, Option.isSome_some, i6, v2, c4, c41, t5, t4', hwf, i9, hw]
            refine rawK_of (hcp2 _) ?_
            rintro r h' n' ⟨rfl, rfl, hle⟩
            simp -dsimp -implicitDefEqProofs only [go_sem, seval]
            exact ⟨⟨_, rfl, Cut.leaf _ _ _ hk⟩, hI2, by omega, fun q hq => by rw [updC_at, if_neg (by omega)]⟩
          · simp -dsimp -implicitDefEqProofs only [go_sem, seval, hoT, hn0, hlt, i5, v1, c1, t1, Option.isSome_some, i6, v2, c4, c41, t5, t4', hwf, i9, hw, hkk]
            refine rawK_of (hcp2 _) ?_
            rintro r h' n' ⟨rfl, rfl, hle⟩
            simp -dsimp -implicitDefEqProofs only [go_sem, seval]
            exact ⟨⟨_, rfl, Cut.leaf _ _ _ hk⟩, hI2, by omega, fun q hq => by rw [updC_at, if_neg (by omega)]⟩
  · have hle : leafB set x = x := by simp [leafB, ho]
    have hgo : goodB set x = true := by simp [goodB, ho]
    rw [hle, hgo, Bool.and_true]
    (refine denR_ofY Γ53 rfl ?_; dsimp only [f53])
    rcases hsh with rfl | ⟨k, rfl, hkk⟩
    · simp -dsimp -implicitDefEqProofs only [go_sem, seval, ho]
      refine rawK_of (hcp _) ?_
      rintro r h' n' ⟨rfl, rfl, hle⟩
      simp -dsimp -implicitDefEqProofs only [go_sem, seval]
      exact ⟨⟨_, rfl, Cut.leaf _ _ _ hk⟩, hI, by omega, fun _ _ => rfl⟩
    · simp -dsimp -implicitDefEqProofs only [go_sem, seval, ho, hkk]
      refine rawK_of (hcp _) ?_
      rintro r h' n' ⟨rfl, rfl, hle⟩
      simp -dsimp -implicitDefEqProofs only [go_sem, seval]
      exact ⟨⟨_, rfl, Cut.leaf _ _ _ hk⟩, hI, by omega, fun _ _ => rfl⟩
/-- The expression in which assignments are substituted. -/
def zeroE : Expr := .mk 0 0 0 []
def substM (set : List Assign) (e : Expr) : Expr :=
  if e.formed && e.lv.all (goodB set) && (e.mapL (leafB set)).formed then e.mapL (leafB set) else zeroE
theorem asg_snoc (set : List Assign) (a : Assign) (c : Int) : asg (set ++ [a]) c = if (asg set c).isSome then asg set c else if a.cell = c then some a.to else none := by
  unfold asg
  rw [List.find?_append]
  cases h : set.find? fun a => decide (a.cell = c) with
  | some b => simp
  | none =>
    by_cases hc : a.cell = c
    · simp [hc]
    · simp [hc]
theorem fndL_snoc (set : List Assign) (a : Assign) {c : Nat} (hc : a.cell = c) : fndL (set ++ [a]) = (fndL set).set c true := by
  refine List.ext_getElem? fun j => ?_
  by_cases hj : j < 32
  · rw [fndL_get _ hj, List.getElem?_set, fndL_len, fndL_get _ hj, asg_snoc]
    by_cases h : c = j
    · subst h
      cases hs : asg set c <;> simp [hs, hc, hj]
    · have : ¬ a.cell = (j : Int) := by omega
      cases hs : asg set j <;> simp [hs, h, this]
  · rw [List.getElem?_eq_none (by rw [fndL_len]; omega), List.getElem?_eq_none (by rw [List.length_set, fndL_len]; omega)]
theorem blkL_snoc (set : List Assign) (a : Assign) {c : Nat} (hc : a.cell = c) (hn : asg set a.cell = none) : blkL (set ++ [a]) = (blkL set).set c (cellsE (some a.to)) := by
  refine List.ext_getElem? fun j => ?_
  by_cases hj : j < 32
  · rw [blkL_get _ hj, List.getElem?_set, blkL_len, blkL_get _ hj, asg_snoc]
    by_cases h : c = j
    · subst h
      rw [hc] at hn
      simp [hn, hc, hj]
    · have : ¬ a.cell = (j : Int) := by omega
      cases hs : asg set j <;> simp [hs, h, this]
  · rw [List.getElem?_eq_none (by rw [blkL_len]; omega), List.getElem?_eq_none (by rw [List.length_set, blkL_len]; omega)]
/-- An assignment that is passed over. -/
theorem snoc_skip (set : List Assign) (a : Assign) (h : ∀ c : Nat, c < 32 → a.cell = c → (asg set c).isSome = true) : fndL (set ++ [a]) = fndL set ∧ blkL (set ++ [a]) = blkL set := by
  have hj : ∀ j : Nat, j < 32 → asg (set ++ [a]) j = asg set j := fun j hj => by
    rw [asg_snoc]
    by_cases hc : a.cell = j
    · rw [if_pos (h j hj hc)]
    · cases hs : asg set j <;> simp [hs, hc]
  constructor
  · unfold fndL
    exact List.map_congr_left fun c hc => by rw [hj c (List.mem_range.1 hc)]
  · unfold blkL
    exact List.map_congr_left fun c hc => by rw [hj c (List.mem_range.1 hc)]
end Rg
end
section
/- Rh: package expr: substitution, second part. No condition. -/
set_option linter.unusedSimpArgs false
set_option linter.unusedVariables false
namespace Rg
open Go
theorem blk_flen (set : List Assign) : (blkL set).flatten.length = 128 := by
  rw [List.length_flatten]
  have : (blkL set).map List.length = List.replicate 32 4 := by
    rw [List.eq_replicate_iff]
    exact ⟨by simp [blkL_len], fun n hn => by obtain ⟨l, hl, rfl⟩ := List.mem_map.1 hn; exact blkL_all set l hl⟩
  rw [this]; rfl
theorem subst_den (set : List Assign) (hset : set.length < 2 ^ 40) (e : Expr) (hsz : (e.mapL (leafB set)).size ≤ 1000) : Den Γ G 26 [(.agg [.t (ti (e).op), .t (ti (e).w), .t (ti (e).n), .t (.sl ((e).kids.map (Expr.enc)))]), .t (.sl (set.map Assign.enc))] = some (.agg [.t (ti (substM set e).op), .t (ti (substM set e).w), .t (ti (substM set e).n), .t (.sl ((substM set e).kids.map (Expr.enc)))]) := by
  (refine den_ofY Γ26 rfl ?_; dsimp only [f26])
  have hwf := wellFormed_den e
  simp -dsimp -implicitDefEqProofs only [go_sem, seval, hwf]
  cases hf : e.formed
  · simp -dsimp -implicitDefEqProofs only [go_sem, seval]
    simp [substM, hf, zeroE, Expr.op, Expr.w, Expr.n, Expr.kids]
  · simp -dsimp -implicitDefEqProofs only [go_sem, seval]
    refine loopYH 35184371958016 set.length (fun i f hh x => (f 17).v = vi i ∧ hh 5 = some (.rows 32 [vbs (fndL (set.take i))] false) ∧ hh 6 = some (.rows 128 [(blkL (set.take i)).flatten] false) ∧
      hh 0 = some (O.rows 4 [[V.t (ti e.op), V.t (ti e.w), V.t (ti e.n), V.t (T.sl (List.map Expr.enc e.kids))]] false) ∧ 6 < x) rfl ⟨by simp -dsimp -implicitDefEqProofs only [go_sem, seval], by simp -dsimp -implicitDefEqProofs only [go_sem, seval]; rfl, by simp -dsimp -implicitDefEqProofs only [go_sem, seval]; rfl, by simp -dsimp -implicitDefEqProofs only [go_sem, seval], by simp -dsimp -implicitDefEqProofs only [go_sem, seval]⟩ ?_
    rintro i f u H x bs hi ⟨h17, g5, g6, g0, hx⟩
    have hw := wrapS i (by omega)
    simp -dsimp -implicitDefEqProofs only [go_sem, seval, h17]
    refine csplit (fun h => ?_) (fun h => ?_) <;> (try rw [h]) <;> (try simp only [bools] at h) <;> (try simp -dsimp -implicitDefEqProofs only [go_sem, seval, h17])
    · obtain ⟨a, ha, ham⟩ := get_of ‹i < set.length›
      have hlt : i < set.length := ‹i < set.length›
      have htk := take_succ_of ha
      by_cases hc : 0 ≤ a.cell ∧ a.cell < 32
      · obtain ⟨c0, c1⟩ := hc
        have c31 : a.cell.toNat * 1 ≤ 31 := by omega
        have c32 : a.cell.toNat < 32 := by omega
        have c4 : a.cell.toNat * 4 + 4 ≤ 128 := by omega
        have hnn : ((a.cell.toNat : Nat) : Int) = a.cell := by omega
        have v1 : (vbs (fndL (set.take i))).length = 32 := by simp [vbs, fndL_len]
        have t1 : List.take 1 (List.drop (a.cell.toNat * 1) (vbs (fndL (set.take i)))) = [vb (asg (set.take i) a.cell).isSome] := by
          have hf := fndL_get (set.take i) c32
          rw [hnn] at hf
          have hg : (vbs (fndL (set.take i)))[a.cell.toNat]? = some (vb (asg (set.take i) a.cell).isSome) := by simp [vbs, hf]
          obtain ⟨h1, h2⟩ := List.getElem?_eq_some_iff.1 hg
          rw [Nat.mul_one, List.drop_eq_getElem_cons h1, h2]; rfl
        cases hs : asg (set.take i) a.cell with
        | some t =>
          rw [hs] at t1
          have hsk := snoc_skip (set.take i) a (fun c _ hc => by rw [← hc, hs]; rfl)
          rw [← htk] at hsk
          simp -dsimp -implicitDefEqProofs only [go_sem, seval, h17, ha, c0, c1, g5, v1, c31, t1, Option.isSome_some]
          refine ⟨hlt, by simp -dsimp -implicitDefEqProofs only [go_sem, seval, hw], by simp -dsimp -implicitDefEqProofs only [go_sem, seval, hsk.1, g5], by simp -dsimp -implicitDefEqProofs only [go_sem, seval, hsk.2, g6], by simp -dsimp -implicitDefEqProofs only [go_sem, seval, g0], by simp -dsimp -implicitDefEqProofs only [go_sem, seval]; omega⟩
        | none =>
          rw [hs] at t1
          have w1 := wr_vbs (l := fndL (set.take i)) (i := a.cell.toNat) (by rw [fndL_len]; omega)
          have w2 := wr_blk 4 (blkL (set.take i)) a.cell.toNat (cellsE (some a.to)) (blkL_all _) (by rw [blkL_len]; omega) rfl
          rw [← fndL_snoc (set.take i) a hnn.symm, ← htk] at w1
          rw [← blkL_snoc (set.take i) a hnn.symm hs, ← htk] at w2
          have v2 := blk_flen (set.take i)
          unfold wr at w1 w2
          rw [if_pos (by rw [v1]; simp; omega)] at w1
          rw [if_pos (by rw [v2]; simp [cellsE]; omega)] at w2
          simp only [Option.some.injEq, List.length_cons, List.length_nil, Nat.zero_add, Nat.reduceAdd, List.append_assoc, List.cons_append, List.nil_append, cellsE] at w1 w2
          simp -dsimp -implicitDefEqProofs only [go_sem, seval, h17, ha, c0, c1, g5, v1, c31, t1, Option.isSome_none, g6, v2, c4]
          refine ⟨hlt, by simp -dsimp -implicitDefEqProofs only [go_sem, seval, hw], ?_, ?_, by simp -dsimp -implicitDefEqProofs only [go_sem, seval, g0], by simp -dsimp -implicitDefEqProofs only [go_sem, seval]; omega⟩
          · simp -dsimp -implicitDefEqProofs only [go_sem, seval, Nat.mul_one, List.append_assoc, w1]
          · simp -dsimp -implicitDefEqProofs only [go_sem, seval, List.append_assoc, w2]
      · have hsk := snoc_skip (set.take i) a (fun c h1 h2 => absurd ⟨by omega, by omega⟩ hc)
        rw [← htk] at hsk
        by_cases c0 : 0 ≤ a.cell
        · have c1 : ¬ a.cell < 32 := fun h => hc ⟨c0, h⟩
          simp -dsimp -implicitDefEqProofs only [go_sem, seval, h17, ha, c0, c1]
          refine ⟨hlt, by simp -dsimp -implicitDefEqProofs only [go_sem, seval, hw], by simp -dsimp -implicitDefEqProofs only [go_sem, seval, hsk.1, g5], by simp -dsimp -implicitDefEqProofs only [go_sem, seval, hsk.2, g6], by simp -dsimp -implicitDefEqProofs only [go_sem, seval, g0], by simp -dsimp -implicitDefEqProofs only [go_sem, seval]; omega⟩
        · simp -dsimp -implicitDefEqProofs only [go_sem, seval, h17, ha, c0]
          refine ⟨hlt, by simp -dsimp -implicitDefEqProofs only [go_sem, seval, hw], by simp -dsimp -implicitDefEqProofs only [go_sem, seval, hsk.1, g5], by simp -dsimp -implicitDefEqProofs only [go_sem, seval, hsk.2, g6], by simp -dsimp -implicitDefEqProofs only [go_sem, seval, g0], by simp -dsimp -implicitDefEqProofs only [go_sem, seval]; omega⟩
    · have : i = set.length := by omega
      subst this
      rw [List.take_length] at g5 g6
      refine rawK_of (rebuild_den (.fn 53 [] [.mp 5 0 0, .mp 6 0 0, .mp (x + 1 + 0) 0 0]) 53 _ rfl rfl (x + 1 + 0 + 1) (IB 0 5 6 (x + 1 + 0) set e) _ (leafB set) lcS
        ?_ (sub1_den 0 5 6 (x + 1 + 0) (x + 1 + 0 + 1) set e (by omega) (by omega) (by omega) (by omega)) e _ true _ _ (deep_lcS 40 e (formed_deep hf)) ⟨?_, ?_, ?_, ?_⟩ (by omega) (fun s h hI => .inr ⟨0, false, rfl, hI.2.2.2⟩)) ?_
      · rintro g h h' ⟨i5, i6, i9, i2⟩ hk
        exact ⟨(hk 5 (by omega)).trans i5, (hk 6 (by omega)).trans i6, (hk _ (by omega)).trans i9, (hk 0 (by omega)).trans i2⟩
      · rw [updC_at, if_neg (by omega), updC_at, if_neg (by omega)]; exact g5
      · rw [updC_at, if_neg (by omega), updC_at, if_neg (by omega)]; exact g6
      · rw [updC_at, if_pos rfl]
      · rw [updC_at, if_neg (by omega), updC_at, if_neg (by omega)]; exact g0
      · rintro r h' n' ⟨⟨cs, rfl, z, rfl, hz, ht⟩, ⟨i5, i6, i9, i2⟩, hle, hkp⟩
        rw [foldl_and, Bool.true_and] at i9
        have h1 := ht h' 1000 hsz fun _ _ _ => rfl
        have hw2 := wellFormed_den (e.mapL (leafB set))
        have hsc : substM set e = if (e.lv.all (goodB set) && (e.mapL (leafB set)).formed) = true then e.mapL (leafB set) else zeroE := by simp [substM, hf]
        cases hg : e.lv.all (goodB set)
        · rw [hg] at i9
          simp -dsimp -implicitDefEqProofs only [go_sem, seval, hz, i9]
          simp [hsc, hg, zeroE, Expr.op, Expr.w, Expr.n, Expr.kids]
        · rw [hg] at i9
          simp -dsimp -implicitDefEqProofs only [go_sem, seval, hz, i9, h1, hw2]
          cases hr : (e.mapL (leafB set)).formed
          · simp -dsimp -implicitDefEqProofs only [go_sem, seval]
            simp [hsc, hg, hr, zeroE, Expr.op, Expr.w, Expr.n, Expr.kids]
          · simp -dsimp -implicitDefEqProofs only [go_sem, seval, hz, h1]
            simp [hsc, hg, hr]
end Rg
end
section
/- Rh: layer 11: substitution and assignment, the plain law. No condition. -/
set_option linter.unusedSimpArgs false
set_option linter.unusedVariables false
namespace Rg
open Go
theorem node_inner {e : Expr} (h : nodeOk e = true) (hk : e.kids ≠ []) : e.op ≠ 1 ∧ e.op ≠ 2 ∧ e.op ≠ 3 := by
  have ha := node_arity h
  refine ⟨fun ho => ?_, fun ho => ?_, fun ho => ?_⟩ <;> rw [ho] at ha <;> simp [arity] at ha <;> exact hk (List.eq_nil_of_length_eq_zero (by omega))
theorem deep_le {k : Nat} : ∀ {d : Nat} {e : Expr}, d ≤ k → e.deep d = true → e.deep k = true := by
  induction k with
  | zero => intro d e hd h; have : d = 0 := by omega
            subst this; exact h
  | succ k ih =>
    intro d e hd h
    cases d with
    | zero => simp [Expr.deep] at h
    | succ d =>
      simp only [Expr.deep, Bool.and_eq_true, List.all_eq_true] at h ⊢
      exact ⟨h.1, fun x hx => ih (by omega) (h.2 x hx)⟩
theorem deep_size {m : Nat} : ∀ {d : Nat} {e : Expr}, e.size ≤ m → e.deep d = true → e.deep m = true := by
  induction m with
  | zero => intro d e hs; have := Expr.size_pos e; omega
  | succ m ih =>
    intro d e hs h
    cases d with
    | zero => simp [Expr.deep] at h
    | succ d =>
      simp only [Expr.deep, Bool.and_eq_true, List.all_eq_true] at h ⊢
      exact ⟨h.1, fun x hx => ih (by have := Expr.size_kid hx; omega) (h.2 x hx)⟩
/-- The leaves of an expression. -/
theorem lv_mem {e x : Expr} (h : x ∈ e.lv) : x.kids = [] := by
  induction e using Expr.ind with
  | _ e ih =>
    rw [Expr.lv_eq] at h
    split at h
    · rename_i hk; rw [List.mem_singleton.1 h]; exact hk
    · obtain ⟨k, hk, hx⟩ := List.mem_flatMap.1 h
      exact ih k hk hx
theorem lv_kid {e k : Expr} (hk : k ∈ e.kids) {x : Expr} (hx : x ∈ k.lv) : x ∈ e.lv := by
  rw [Expr.lv_eq, if_neg (by intro h; rw [h] at hk; simp at hk)]
  exact List.mem_flatMap.2 ⟨k, hk, hx⟩
theorem lv_self {e : Expr} (hk : e.kids = []) : e ∈ e.lv := by rw [Expr.lv_eq, if_pos hk]; simp
theorem lv_deep {x : Expr} : ∀ {d : Nat} {e : Expr}, e.deep d = true → x ∈ e.lv → nodeOk x = true := by
  intro d
  induction d with
  | zero => intro e h; simp [Expr.deep] at h
  | succ d ih =>
    intro e h hx
    rw [Expr.lv_eq] at hx
    split at hx
    · rw [List.mem_singleton.1 hx]; exact deep_node h
    · obtain ⟨k, hk, hx⟩ := List.mem_flatMap.1 hx
      exact ih (deep_kid h hk) hx
theorem lv_allE {f : Expr → Bool} {x : Expr} : ∀ {e : Expr}, e.allE f = true → x ∈ e.lv → f x = true := by
  intro e
  induction e using Expr.ind with
  | _ e ih =>
    intro h hx
    rw [Expr.lv_eq] at hx
    split at hx
    · rw [List.mem_singleton.1 hx]; exact Expr.allE_self h
    · obtain ⟨k, hk, hx⟩ := List.mem_flatMap.1 hx
      exact ih k hk (Expr.allE_kid h hk) hx
theorem mapL_ev {f : Expr → Expr} {o1 m1 o2 m2 : List Int} : ∀ {d : Nat} {e : Expr}, e.deep d = true → (∀ x ∈ e.lv, (f x).ev o1 m1 = x.ev o2 m2) → (e.mapL f).ev o1 m1 = e.ev o2 m2 := by
  intro d
  induction d with
  | zero => intro e h; simp [Expr.deep] at h
  | succ d ih =>
    intro e h hl
    by_cases hk : e.kids = []
    · rw [Expr.mapL_leaf hk]; exact hl e (lv_self hk)
    · obtain ⟨n1, n2, n3⟩ := node_inner (deep_node h) hk
      rw [Expr.mapL_node hk, Expr.ev_eq, Expr.ev_eq o2 m2 e]
      have : (e.kids.map (Expr.mapL f)).map (Expr.ev o1 m1) = e.kids.map (Expr.ev o2 m2) := by
        rw [List.map_map]
        exact List.map_congr_left fun k hk => ih (deep_kid h hk) fun x hx => hl x (lv_kid hk hx)
      simp only [go_sem, n1, n2, n3, if_false, this]
theorem mapL_w {f : Expr → Expr} {e : Expr} (h : ∀ x ∈ e.lv, (f x).w = x.w) : (e.mapL f).w = e.w := by
  by_cases hk : e.kids = []
  · rw [Expr.mapL_leaf hk]; exact h e (lv_self hk)
  · rw [Expr.mapL_node hk]; rfl
theorem mapL_size {f : Expr → Expr} {m : Nat} (hm : 1 ≤ m) : ∀ {e : Expr}, (∀ x ∈ e.lv, (f x).size ≤ m) → (e.mapL f).size ≤ m * e.size := by
  intro e
  induction e using Expr.ind with
  | _ e ih =>
    intro h
    by_cases hk : e.kids = []
    · rw [Expr.mapL_leaf hk, Expr.size_eq e, hk]
      have := h e (lv_self hk)
      simpa using this
    · rw [Expr.mapL_node hk, Expr.size_eq, Expr.size_eq e]
      have key : ∀ l : List Expr, (∀ k ∈ l, k ∈ e.kids) → ((l.map (Expr.mapL f)).map Expr.size).sum ≤ m * (l.map Expr.size).sum := by
        intro l
        induction l with
        | nil => intro _; simp
        | cons k l ihl =>
          intro hl
          have h1 := ihl fun x hx => hl x (by simp [hx])
          have h2 := ih k (hl k (by simp)) fun x hx => h x (lv_kid (hl k (by simp)) hx)
          simp only [List.map_cons, List.sum_cons, Nat.mul_add]
          omega
      have := key e.kids fun _ h => h
      have hkk : (Expr.mk e.op e.w e.n (e.kids.map (Expr.mapL f))).kids = e.kids.map (Expr.mapL f) := rfl
      rw [hkk, Nat.mul_add]
      omega
theorem mapL_deep {f : Expr → Expr} {k : Nat} : ∀ {d : Nat} {e : Expr}, e.deep d = true → (∀ x ∈ e.lv, (f x).w = x.w ∧ (f x).deep k = true) → (e.mapL f).deep (d + k) = true := by
  intro d
  induction d with
  | zero => intro e h; simp [Expr.deep] at h
  | succ d ih =>
    intro e h hl
    by_cases hk : e.kids = []
    · rw [Expr.mapL_leaf hk]
      exact deep_le (by omega) (hl e (lv_self hk)).2
    · rw [Expr.mapL_node hk, show d + 1 + k = d + k + 1 by omega]
      simp only [Expr.deep, Bool.and_eq_true, List.all_eq_true] at h ⊢
      constructor
      · rw [← h.1]
        have hw : ∀ i, Expr.kw (Expr.mk e.op e.w e.n (e.kids.map (Expr.mapL f))) i = e.kw i := by
          intro i
          unfold Expr.kw
          have ek : (Expr.mk e.op e.w e.n (e.kids.map (Expr.mapL f))).kids = e.kids.map (Expr.mapL f) := rfl
          rw [ek, List.getD_eq_getElem?_getD, List.getD_eq_getElem?_getD, List.getElem?_map]
          cases hi : e.kids[i]? with
          | none => rfl
          | some y => exact mapL_w fun x hx => (hl x (lv_kid (List.mem_of_getElem? hi) hx)).1
        simp only [nodeOk, hw]
        have e1 : (Expr.mk e.op e.w e.n (e.kids.map (Expr.mapL f))).op = e.op := rfl
        have e2 : (Expr.mk e.op e.w e.n (e.kids.map (Expr.mapL f))).w = e.w := rfl
        have e3 : (Expr.mk e.op e.w e.n (e.kids.map (Expr.mapL f))).n = e.n := rfl
        have e4 : (Expr.mk e.op e.w e.n (e.kids.map (Expr.mapL f))).kids.length = e.kids.length := by simp [Expr.kids]
        rw [e1, e2, e3, e4]
      · intro x hx
        obtain ⟨y, hy, rfl⟩ := List.mem_map.1 hx
        exact ih (h.2 y hy) fun x hx => hl x (lv_kid hy hx)
/-- Values do not depend on what is not named. -/
theorem ev_old {o1 o2 m : List Int} : ∀ {d : Nat} {e : Expr}, e.deep d = true → (∀ x ∈ e.lv, x.op ≠ 3) → e.ev o1 m = e.ev o2 m := by
  intro d e h hl
  have := mapL_ev (f := fun x => x) (o1 := o1) (o2 := o2) (m1 := m) (m2 := m) h (fun x hx => by
    rw [Expr.ev_eq, Expr.ev_eq o2, if_neg (hl x hx), if_neg (hl x hx), lv_mem hx]; rfl)
  rwa [mapL_same] at this
theorem write_off {view : List Int} {c : Nat} : ∀ {set : List Assign} {mem : List Int}, (∀ a ∈ set, 0 ≤ a.cell ∧ a.cell ≠ c) → (writeM mem view set)[c]? = mem[c]?
  | [], mem, _ => rfl
  | a :: r, mem, h => by
    have e : writeM mem view (a :: r) = writeM (mem.set a.cell.toNat (a.to.eval view view)) view r := rfl
    have h0 := h a (by simp)
    rw [e, write_off fun b hb => h b (by simp [hb]), List.getElem?_set, if_neg (by omega)]
theorem write_on {view : List Int} {c : Nat} : ∀ {set : List Assign} {mem : List Int} {t : Expr}, (∀ a ∈ set, 0 ≤ a.cell) → (∀ (i j : Nat) (a b : Assign), set[i]? = some a → set[j]? = some b → a.cell = b.cell → i = j) →
    asg set c = some t → c < mem.length → (writeM mem view set)[c]? = some (t.eval view view)
  | [], mem, t, _, _, h, _ => by simp [asg] at h
  | a :: r, mem, t, h0, hd, h, hc => by
    have e : writeM mem view (a :: r) = writeM (mem.set a.cell.toNat (a.to.eval view view)) view r := rfl
    have ha := h0 a (by simp)
    rw [e]
    by_cases hac : a.cell = c
    · have ht : t = a.to := by simp [asg, List.find?_cons, hac] at h; exact h.symm
      subst ht
      rw [write_off fun b hb => ⟨h0 b (by simp [hb]), fun hbc => ?_⟩, List.getElem?_set, if_pos (by omega), if_pos (by omega)]
      obtain ⟨j, hj⟩ := List.getElem?_of_mem hb
      have := hd 0 (j + 1) a b rfl (by simpa using hj) (by omega)
      omega
    · have h' : asg r c = some t := by simpa [asg, List.find?_cons, hac] using h
      exact write_on (fun b hb => h0 b (by simp [hb])) (fun i j x y hi hj hxy => by
        have := hd (i + 1) (j + 1) x y (by simpa using hi) (by simpa using hj) hxy
        omega) h' (by simpa using hc)
theorem asg_mem {set : List Assign} {c : Int} {t : Expr} (h : asg set c = some t) : ∃ a ∈ set, a.cell = c ∧ a.to = t := by
  unfold asg at h
  rw [Option.map_eq_some_iff] at h
  obtain ⟨a, ha, rfl⟩ := h
  exact ⟨a, List.mem_of_find?_eq_some ha, by simpa using List.find?_some ha, rfl⟩
theorem asg_none {set : List Assign} {c : Int} (h : asg set c = none) : ∀ a ∈ set, a.cell ≠ c := by
  unfold asg at h
  rw [Option.map_eq_none_iff, List.find?_eq_none] at h
  intro a ha
  simpa using h a ha
/-- What is assumed of the assignments of a step. -/
structure SetOk (p : Prog) (set : List Assign) : Prop where
  rng : ∀ a ∈ set, inR a.cell p.cells.length = true ∧ a.to.valid p.cells false = true
  wid : ∀ a ∈ set, ∃ y, p.cells[a.cell.toNat]? = some y ∧ a.to.w = y.w
  dif : ∀ (i j : Nat) (a b : Assign), set[i]? = some a → set[j]? = some b → a.cell = b.cell → i = j
theorem valid_lv {cells : List Cell} {e x : Expr} (h : e.valid cells false = true) (hx : x ∈ e.lv) : x.kids = [] ∧ nodeOk x = true ∧ (x.op = 1 ∨ x.op = 2 ∧ 0 ≤ x.n ∧ x.n < 32 ∧ ∃ c, cells[x.n.toNat]? = some c ∧ c.w = x.w) := by
  simp only [Expr.valid, Bool.and_eq_true] at h
  have hk := lv_mem hx
  have hn := lv_deep (formed_deep h.1) hx
  have hl := lv_allE h.2 hx
  have hc := lv_allE (deep_lcS 40 e (formed_deep h.1)) hx
  simp only [lcS, Bool.and_eq_true, decide_eq_true_eq] at hc
  refine ⟨hk, hn, ?_⟩
  have h3 : x.op ≠ 3 := fun h3 => by simp [leafOk, h3] at hl
  rcases hc.1.2 hk with h1 | ⟨h2 | h2, hlt⟩
  · exact .inl h1
  · refine .inr ⟨h2, hc.1.1, hlt, ?_⟩
    simp only [leafOk, h2] at hl
    cases hcc : cells[x.n.toNat]? with
    | none => simp [hcc] at hl
    | some c => exact ⟨c, rfl, by simpa [hcc] using hl⟩
  · exact absurd h2 h3
theorem leaf_ok {p : Prog} {set : List Assign} (hs : SetOk p set) {e : Expr} (he : e.valid p.cells false = true) {x : Expr} (hx : x ∈ e.lv) : goodB set x = true ∧ (leafB set x).w = x.w := by
  obtain ⟨hk, hn, ho⟩ := valid_lv he hx
  rcases ho with ho | ⟨ho, h0, hlt, c, hc, hcw⟩
  · simp [goodB, leafB, ho]
  · cases ha : asg set x.n with
    | none => simp [goodB, leafB, ho, ha]
    | some t =>
      obtain ⟨a, ham, hac, rfl⟩ := asg_mem ha
      obtain ⟨y, hy, hyw⟩ := hs.wid a ham
      rw [hac, hc] at hy
      cases hy
      have hv := (hs.rng a ham).2
      simp only [Expr.valid, Bool.and_eq_true] at hv
      have hok : okTo x a.to = true := by simp [okTo, hv.1, hyw, hcw]
      simp [goodB, leafB, ho, ha, hok, hyw, hcw]
theorem leaf_ev {p : Prog} {set : List Assign} (hs : SetOk p set) {c : Config} (hc : IsC p c) {e : Expr} (he : e.valid p.cells false = true) {x : Expr} (hx : x ∈ e.lv) :
    (leafB set x).ev [] c.mem = x.ev [] (writeM c.mem c.mem set) := by
  have hg := (leaf_ok hs he hx).1
  obtain ⟨hk, hn, ho⟩ := valid_lv he hx
  rcases ho with ho | ⟨ho, h0, hlt, y, hy, hyw⟩
  · simp [leafB, ho, Expr.ev_eq]
  · have hyl : x.n.toNat < p.cells.length := (List.getElem?_eq_some_iff.1 hy).1
    have hnn : ((x.n.toNat : Nat) : Int) = x.n := by omega
    cases ha : asg set x.n with
    | none =>
      have hle : leafB set x = x := by simp [leafB, ha]
      have hoff := write_off (view := c.mem) (mem := c.mem) (c := x.n.toNat) fun a ham => ⟨by
        have := (hs.rng a ham).1
        simp only [inR, decide_eq_true_eq] at this; omega, by rw [hnn]; exact asg_none ha a ham⟩
      have hat : atI (writeM c.mem c.mem set) x.n = atI c.mem x.n := by simp [atI, List.getD_eq_getElem?_getD, hoff]
      rw [hle, Expr.ev_eq, Expr.ev_eq _ (writeM c.mem c.mem set), hat]
      simp [ho]
    | some t =>
      have hok : okTo x t = true := by simpa [goodB, ho, ha] using hg
      have hle : leafB set x = t := by simp [leafB, ho, ha, hok]
      obtain ⟨a, ham, hac, rfl⟩ := asg_mem ha
      have hv := (hs.rng a ham).2
      have hon := write_on (view := c.mem) (mem := c.mem) (c := x.n.toNat) (t := a.to) (fun a ham => by
        have := (hs.rng a ham).1
        simp only [inR, decide_eq_true_eq] at this; omega) hs.dif (by rw [hnn]; exact ha) (by rw [hc.lm]; exact hyl)
      have hat : atI (writeM c.mem c.mem set) x.n = a.to.eval c.mem c.mem := atI_get hon
      have hb := eval_bound a.to c.mem c.mem
      simp only [okTo, Bool.and_eq_true, decide_eq_true_eq] at hok
      rw [hle, Expr.ev_eq _ (writeM c.mem c.mem set), if_neg (by omega), if_pos ho, hat, ← hok.1, Int.emod_eq_of_lt hb.1 hb.2, Expr.eval, if_pos hok.2]
      exact ev_old (formed_deep hok.2) fun z hz h3 => by
        rcases (valid_lv hv hz).2.2 with h | h <;> omega
/-- The value of an expression after the assignments is that of the expression in which they are substituted. -/
theorem subst_law {p : Prog} {set : List Assign} (hs : SetOk p set) (hsz : ∀ a ∈ set, a.to.size ≤ 30) {c : Config} (hc : IsC p c) {e : Expr} (he : e.valid p.cells false = true) (h8 : e.size ≤ 8) :
    (e.mapL (leafB set)).size ≤ 1000 ∧ substM set e = e.mapL (leafB set) ∧ e.eval [] (writeM c.mem c.mem set) = (substM set e).eval [] c.mem ∧ (substM set e).op ≠ 0 := by
  have hv := he
  simp only [Expr.valid, Bool.and_eq_true] at hv
  have hf := hv.1
  have hl : ∀ x ∈ e.lv, (leafB set x).size ≤ 30 ∧ (leafB set x).deep 30 = true := by
    intro x hx
    obtain ⟨hk, hn, ho⟩ := valid_lv he hx
    have hx1 : x.size ≤ 30 ∧ x.deep 30 = true := by
      have h1 : x.size = 1 := by rw [Expr.size_eq, hk]; rfl
      exact ⟨by omega, by simp [Expr.deep, hn, hk]⟩
    unfold leafB
    split
    · split
      · exact hx1
      · rename_i t ht
        split
        · rename_i hok
          obtain ⟨a, ham, _, rfl⟩ := asg_mem ht
          simp only [okTo, Bool.and_eq_true, decide_eq_true_eq] at hok
          exact ⟨hsz a ham, deep_size (hsz a ham) (formed_deep hok.2)⟩
        · exact hx1
    · exact hx1
  have hsize := mapL_size (f := leafB set) (m := 30) (by omega) fun x hx => (hl x hx).1
  have hdeep := mapL_deep (f := leafB set) (k := 30) (deep_size h8 (formed_deep hf)) fun x hx => ⟨(leaf_ok hs he hx).2, (hl x hx).2⟩
  have hform : (e.mapL (leafB set)).formed = true := by
    simp only [Expr.formed, Bool.and_eq_true, decide_eq_true_eq]
    exact ⟨by omega, deep_le (by omega) hdeep⟩
  have hall : e.lv.all (goodB set) = true := by
    rw [List.all_eq_true]; exact fun x hx => (leaf_ok hs he hx).1
  have hsub : substM set e = e.mapL (leafB set) := by simp [substM, hf, hall, hform]
  refine ⟨by omega, hsub, ?_, ?_⟩
  · rw [hsub, Expr.eval, if_pos hf, Expr.eval, if_pos hform]
    exact (mapL_ev (formed_deep hf) fun x hx => leaf_ev hs hc he hx).symm
  · rw [hsub]
    intro h0
    have := node_arity (deep_node (formed_deep hform))
    rw [h0] at this
    simp [arity] at this
end Rg
end
section
/- Rh: layer 11: the fourth law. No condition. -/
set_option linter.unusedSimpArgs false
set_option linter.unusedVariables false
namespace Rg
open Go
theorem formed_set {p : Prog} (hf : formedM p = true) {t i : Nat} {x : Thread} {s : Step} (hx : p.threads[t]? = some x) (hs : x.steps[i]? = some s) : SetOk p s.set :=
  let h := formed_step hf hx hs
  ⟨h.rng.2, h.wid, h.dif⟩
theorem few_set {p : Prog} (hf : fewM p = true) {t i : Nat} {x : Thread} {s : Step} (hx : p.threads[t]? = some x) (hs : x.steps[i]? = some s) : s.set.length ≤ 8 ∧ ∀ a ∈ s.set, a.to.size ≤ 30 := by
  simp only [fewM, Bool.and_eq_true, decide_eq_true_eq, List.all_eq_true] at hf
  obtain ⟨⟨⟨⟨⟨⟨h1, h2⟩, h3⟩, h4⟩, h5⟩, h6⟩, h7⟩ := hf
  have ht := (fewGo_mem h5 (by omega) x (List.mem_of_getElem? hx)).2.2.2.2
  simp only [fewT, Bool.and_eq_true, List.all_eq_true] at ht
  have hst := ht.1.1 s (List.mem_of_getElem? hs)
  simp only [fewS, fewA, Bool.and_eq_true, List.all_eq_true, decide_eq_true_eq] at hst
  exact ⟨by omega, fun a ha => by have := hst.2 a ha; omega⟩
theorem rem_in {a : Int} (ha : 0 ≤ a) {n : Nat} (hn : 0 < n) : 0 ≤ a.tmod n ∧ (a.tmod n).toNat < n := by
  rw [Int.tmod_eq_emod_of_nonneg ha]
  have h1 := Int.emod_nonneg a (b := (n : Int)) (by omega)
  have h2 := Int.emod_lt_of_pos a (b := (n : Int)) (by omega)
  omega
theorem law4_den (p : Prog) (hl : p.lite) (picks : List Int) (hpk : ∀ k ∈ picks, 0 ≤ k ∧ k < 256) (pick : Int) (hp : 0 ≤ pick ∧ pick < 256) (e : Expr) :
    Den Γ G 4 [(.agg [.t (.sl ((p).cells.map (Cell.enc))), .t (.sl ((p).modules.map (Contract.enc))), .t (.sl ((p).locks.map (Lock.enc))), .t (.sl ((p).threads.map (Thread.enc)))]), .t (bytesT picks), .t (.int .u8 pick), (.agg [.t (ti (e).op), .t (ti (e).w), .t (ti (e).n), .t (.sl ((e).kids.map (Expr.enc)))])] = some (vb true) := by
  (refine den_ofY Γ4 rfl ?_; dsimp only [f4])
  have h1 := good_den p hl
  have h2 := small_den e 8 (by omega)
  have h3 := validE_den e p.cells false
  have hlb : (picks.map fun n => [T.int .u8 n]).length = picks.length := by simp
  simp -dsimp -implicitDefEqProofs only [go_sem, seval, head_den, h1]
  cases hg : goodM p
  · simp -dsimp -implicitDefEqProofs only [go_sem, seval]
  · simp -dsimp -implicitDefEqProofs only [go_sem, seval, hlb]
    by_cases hlen : picks.length ≤ 40
    · have hlen' : decide ((picks.length : Int) > 40) = false := by simp; omega
      by_cases h8 : e.size ≤ 8
      · have h8' : decide ((e.size : Int) ≤ 8) = true := by simp; omega
        cases hv : e.valid p.cells false
        · simp -dsimp -implicitDefEqProofs only [go_sem, seval, hlen', h2, h8', h3, hv]
        · simp only [goodM, Bool.and_eq_true] at hg
          obtain ⟨hf, hfo⟩ := hg
          have hs := few_sane hl hf
          have a5 := walkR_den p hs picks hpk hlen
          have hc := walk_sane hs picks
          have hi := walk_is hfo picks
          generalize walkM p picks = c at *
          have a1 := enabledRL_den p hs c hc
          rw [enabledL_eq hfo hi] at a1
          have hel := enabled_len (p := p) c
          rw [enabledL_eq hfo hi] at hel
          simp -dsimp -implicitDefEqProofs only [go_sem, seval, hlen', h2, h8', h3, hv, a5, a1]
          by_cases h0 : (choicesM p c).length = 0
          · have h0' : ((choicesM p c).length : Int) = 0 := by omega
            simp -dsimp -implicitDefEqProofs only [go_sem, seval, h0']
          · have h0' : ¬ ((choicesM p c).length : Int) = 0 := by omega
            have wp : IntKind.i64.wrap pick = pick := wrap64 (by omega)
            obtain ⟨k0, k1⟩ := rem_in hp.1 (n := (choicesM p c).length) (by omega)
            obtain ⟨y, hy, hym⟩ := get_of k1
            obtain ⟨t, z, j, s, hz, hsj, hen, rfl, hn, hd⟩ := next_ok hfo hi hym
            have b1 := nextP_den p hs c hc ⟨t, j, 0⟩
            rw [hn] at b1
            obtain ⟨hsl, hsz⟩ := few_set hf hz hsj
            obtain ⟨q1, q2, q3, q4⟩ := subst_law (formed_set hfo hz hsj) hsz (is_iff.1 hi) hv h8
            have b2 := subst_den s.set (by omega) e q1
            have b3 := evalP_den e [] (writeM c.mem c.mem s.set)
            have b4 := evalP_den (substM s.set e) [] c.mem
            rw [← q3] at b4
            have hmem : (execS p c t s).mem = writeM c.mem c.mem s.set := rfl
            simp only [ints, List.map_nil] at b3 b4
            simp -dsimp -implicitDefEqProofs only [go_sem, seval, h0', wp, k0, hy, b1, hz, hsj, b2, hmem, b3, b4, q4]
      · have h8' : decide ((e.size : Int) ≤ 8) = false := by simp; omega
        simp -dsimp -implicitDefEqProofs only [go_sem, seval, hlen', h2, h8']
    · have hlen' : decide ((picks.length : Int) > 40) = true := by simp; omega
      simp -dsimp -implicitDefEqProofs only [go_sem, seval, hlen']
end Rg
end
