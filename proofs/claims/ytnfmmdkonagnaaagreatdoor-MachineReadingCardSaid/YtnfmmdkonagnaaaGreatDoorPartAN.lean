/- Part of the proof of the laws of the package relyguardlaw11: an abstract machine for the program's functions, what they compute, and that the machine is the program's. No condition. (FnTab RgExt LayR1 SeatR1 RhA) -/
import Derived.Test.YtnfmmdkonagnaaaGreatDoorPartAL
import Derived.Test.YtnfmmdkonagnaaaGreatDoorPartAM
import Derived.Shelf.Sort.Plain
import Derived.Shelf.Slices.In.SortNone
import Derived.Shelf.Slices.CompactI
import Derived.Shelf.Slices.Clone
import Derived.Test.YtnfmmdkonagnaaaGreatDoorPartAJ
import Derived.Test.YtnfmmdkonagnaaaGreatDoorRows
import Derived.KernelRfl
import Derived.Test.YtnfmmdkonagnaaaGreatDoorPartAK
set_option linter.unusedSimpArgs false
section
/- The table of the functions (printed by a program). -/
namespace Rg
open Go
def tabL : List (Nat × F) := [(7, f7),
 (8, f8),
 (9, f9),
 (12, f12),
 (13, f13),
 (15, f15),
 (16, f16),
 (17, f17),
 (18, f18),
 (19, f19),
 (20, f20),
 (21, f21),
 (22, f22),
 (23, f23),
 (24, f24),
 (25, f25),
 (27, f27),
 (28, f28),
 (29, f29),
 (31, f31),
 (32, f32),
 (33, f33),
 (34, f34),
 (35, f35),
 (36, f36),
 (38, f38),
 (39, f39),
 (42, f42),
 (43, f43),
 (44, f44),
 (45, f45),
 (46, f46),
 (47, f47),
 (48, f48),
 (49, f49),
 (50, f50),
 (51, f51),
 (56, f56),
 (57, f57),
 (60, f60),
 (61, f61),
 (62, f62),
 (63, f63),
 (64, f64),
 (65, f65),
 (66, f66),
 (67, f67),
 (68, f68),
 (69, f69),
 (70, f70),
 (71, f71),
 (72, f72),
 (73, f73),
 (74, f74),
 (75, f75),
 (76, f76),
 (77, f77),
 (78, f78),
 (79, f79),
 (80, f80),
 (81, f81),
 (82, f82),
 (83, f83),
 (84, f84),
 (85, f85),
 (86, f86),
 (87, f87),
 (88, f88),
 (89, f89),
 (90, f90),
 (91, f91),
 (92, f92),
 (95, f95),
 (96, f96),
 (97, f97),
 (98, f98),
 (99, f99),
 (100, f100),
 (101, f101),
 (102, f102),
 (103, f103),
 (104, f104),
 (105, f105),
 (106, f106),
 (107, f107),
 (108, f108),
 (109, f109),
 (110, f110),
 (111, f111),
 (112, f112),
 (113, f113),
 (114, f114),
 (115, f115),
 (116, f116),
 (117, f117),
 (118, f118),
 (119, f119),
 (131, f131),
 (132, f132),
 (133, f133),
 (134, f134),
 (135, f135),
 (136, f136),
 (137, f137),
 (138, f138),
 (145, f145),
 (146, f146),
 (147, f147),
 (148, f148),
 (149, f149),
 (150, f150),
 (151, f151),
 (152, f152),
 (153, f153),
 (154, f154),
 (155, f155),
 (156, f156),
 (157, f157),
 (158, f158),
 (159, f159),
 (161, f161),
 (162, f162),
 (163, f163),
 (164, f164),
 (165, f165),
 (166, f166)]
def Γ : Nat → Option F := fun k => tabL.lookup k
def G : Nat → List T := fun _ => [.int .i64 0, .int .i64 1, .int .i64 3, .int .i64 7, .int .i64 15, .int .i64 31, .int .i64 63, .int .i64 127, .int .i64 255]
theorem Γ7 : Γ 7 = some f7 := by rfl
theorem Γ8 : Γ 8 = some f8 := by rfl
theorem Γ9 : Γ 9 = some f9 := by rfl
theorem Γ12 : Γ 12 = some f12 := by rfl
theorem Γ13 : Γ 13 = some f13 := by rfl
theorem Γ15 : Γ 15 = some f15 := by rfl
theorem Γ16 : Γ 16 = some f16 := by rfl
theorem Γ17 : Γ 17 = some f17 := by rfl
theorem Γ18 : Γ 18 = some f18 := by rfl
theorem Γ19 : Γ 19 = some f19 := by rfl
theorem Γ20 : Γ 20 = some f20 := by rfl
theorem Γ21 : Γ 21 = some f21 := by rfl
theorem Γ22 : Γ 22 = some f22 := by rfl
theorem Γ23 : Γ 23 = some f23 := by rfl
theorem Γ24 : Γ 24 = some f24 := by rfl
theorem Γ25 : Γ 25 = some f25 := by rfl
theorem Γ27 : Γ 27 = some f27 := by rfl
theorem Γ28 : Γ 28 = some f28 := by rfl
theorem Γ29 : Γ 29 = some f29 := by rfl
theorem Γ31 : Γ 31 = some f31 := by rfl
theorem Γ32 : Γ 32 = some f32 := by rfl
theorem Γ33 : Γ 33 = some f33 := by rfl
theorem Γ34 : Γ 34 = some f34 := by rfl
theorem Γ35 : Γ 35 = some f35 := by rfl
theorem Γ36 : Γ 36 = some f36 := by rfl
theorem Γ38 : Γ 38 = some f38 := by rfl
theorem Γ39 : Γ 39 = some f39 := by rfl
theorem Γ42 : Γ 42 = some f42 := by rfl
theorem Γ43 : Γ 43 = some f43 := by rfl
theorem Γ44 : Γ 44 = some f44 := by rfl
theorem Γ45 : Γ 45 = some f45 := by rfl
theorem Γ46 : Γ 46 = some f46 := by rfl
theorem Γ47 : Γ 47 = some f47 := by rfl
theorem Γ48 : Γ 48 = some f48 := by rfl
theorem Γ49 : Γ 49 = some f49 := by rfl
theorem Γ50 : Γ 50 = some f50 := by rfl
theorem Γ51 : Γ 51 = some f51 := by rfl
theorem Γ56 : Γ 56 = some f56 := by rfl
theorem Γ57 : Γ 57 = some f57 := by rfl
theorem Γ60 : Γ 60 = some f60 := by rfl
theorem Γ61 : Γ 61 = some f61 := by rfl
theorem Γ62 : Γ 62 = some f62 := by rfl
theorem Γ63 : Γ 63 = some f63 := by rfl
theorem Γ64 : Γ 64 = some f64 := by rfl
theorem Γ65 : Γ 65 = some f65 := by rfl
theorem Γ66 : Γ 66 = some f66 := by rfl
theorem Γ67 : Γ 67 = some f67 := by rfl
theorem Γ68 : Γ 68 = some f68 := by rfl
theorem Γ69 : Γ 69 = some f69 := by rfl
theorem Γ70 : Γ 70 = some f70 := by rfl
theorem Γ71 : Γ 71 = some f71 := by rfl
theorem Γ72 : Γ 72 = some f72 := by rfl
theorem Γ73 : Γ 73 = some f73 := by rfl
theorem Γ74 : Γ 74 = some f74 := by rfl
theorem Γ75 : Γ 75 = some f75 := by rfl
theorem Γ76 : Γ 76 = some f76 := by rfl
theorem Γ77 : Γ 77 = some f77 := by rfl
theorem Γ78 : Γ 78 = some f78 := by rfl
theorem Γ79 : Γ 79 = some f79 := by rfl
theorem Γ80 : Γ 80 = some f80 := by rfl
theorem Γ81 : Γ 81 = some f81 := by rfl
theorem Γ82 : Γ 82 = some f82 := by rfl
theorem Γ83 : Γ 83 = some f83 := by rfl
theorem Γ84 : Γ 84 = some f84 := by rfl
theorem Γ85 : Γ 85 = some f85 := by rfl
theorem Γ86 : Γ 86 = some f86 := by rfl
theorem Γ87 : Γ 87 = some f87 := by rfl
theorem Γ88 : Γ 88 = some f88 := by rfl
theorem Γ89 : Γ 89 = some f89 := by rfl
theorem Γ90 : Γ 90 = some f90 := by rfl
theorem Γ91 : Γ 91 = some f91 := by rfl
theorem Γ92 : Γ 92 = some f92 := by rfl
theorem Γ95 : Γ 95 = some f95 := by rfl
theorem Γ96 : Γ 96 = some f96 := by rfl
theorem Γ97 : Γ 97 = some f97 := by rfl
theorem Γ98 : Γ 98 = some f98 := by rfl
theorem Γ99 : Γ 99 = some f99 := by rfl
theorem Γ100 : Γ 100 = some f100 := by rfl
theorem Γ101 : Γ 101 = some f101 := by rfl
theorem Γ102 : Γ 102 = some f102 := by rfl
theorem Γ103 : Γ 103 = some f103 := by rfl
theorem Γ104 : Γ 104 = some f104 := by rfl
theorem Γ105 : Γ 105 = some f105 := by rfl
theorem Γ106 : Γ 106 = some f106 := by rfl
theorem Γ107 : Γ 107 = some f107 := by rfl
theorem Γ108 : Γ 108 = some f108 := by rfl
theorem Γ109 : Γ 109 = some f109 := by rfl
theorem Γ110 : Γ 110 = some f110 := by rfl
theorem Γ111 : Γ 111 = some f111 := by rfl
theorem Γ112 : Γ 112 = some f112 := by rfl
theorem Γ113 : Γ 113 = some f113 := by rfl
theorem Γ114 : Γ 114 = some f114 := by rfl
theorem Γ115 : Γ 115 = some f115 := by rfl
theorem Γ116 : Γ 116 = some f116 := by rfl
theorem Γ117 : Γ 117 = some f117 := by rfl
theorem Γ118 : Γ 118 = some f118 := by rfl
theorem Γ119 : Γ 119 = some f119 := by rfl
theorem Γ131 : Γ 131 = some f131 := by rfl
theorem Γ132 : Γ 132 = some f132 := by rfl
theorem Γ133 : Γ 133 = some f133 := by rfl
theorem Γ134 : Γ 134 = some f134 := by rfl
theorem Γ135 : Γ 135 = some f135 := by rfl
theorem Γ136 : Γ 136 = some f136 := by rfl
theorem Γ137 : Γ 137 = some f137 := by rfl
theorem Γ138 : Γ 138 = some f138 := by rfl
theorem Γ145 : Γ 145 = some f145 := by rfl
theorem Γ146 : Γ 146 = some f146 := by rfl
theorem Γ147 : Γ 147 = some f147 := by rfl
theorem Γ148 : Γ 148 = some f148 := by rfl
theorem Γ149 : Γ 149 = some f149 := by rfl
theorem Γ150 : Γ 150 = some f150 := by rfl
theorem Γ151 : Γ 151 = some f151 := by rfl
theorem Γ152 : Γ 152 = some f152 := by rfl
theorem Γ153 : Γ 153 = some f153 := by rfl
theorem Γ154 : Γ 154 = some f154 := by rfl
theorem Γ155 : Γ 155 = some f155 := by rfl
theorem Γ156 : Γ 156 = some f156 := by rfl
theorem Γ157 : Γ 157 = some f157 := by rfl
theorem Γ158 : Γ 158 = some f158 := by rfl
theorem Γ159 : Γ 159 = some f159 := by rfl
theorem Γ161 : Γ 161 = some f161 := by rfl
theorem Γ162 : Γ 162 = some f162 := by rfl
theorem Γ163 : Γ 163 = some f163 := by rfl
theorem Γ164 : Γ 164 = some f164 := by rfl
theorem Γ165 : Γ 165 = some f165 := by rfl
theorem Γ166 : Γ 166 = some f166 := by rfl
end Rg
end
section
/- Rg: functions of the library that are taken by their contracts: slices.Sort and slices.Compact at []int. No condition. -/
namespace Rg
open Go Go.Sort Go.Shelf
theorem intsOf_get : ∀ {rs : List (List V)} {zs : List Int}, intsOf rs = some zs → rs.length = zs.length ∧ ∀ (i : Nat) (z : Int), zs[i]? = some z → rs[i]? = some [.t (.int .i64 z)]
  | [], zs, h => by simp only [intsOf, Option.some.injEq] at h; subst h; simp
  | row :: r, zs, h => by
    unfold intsOf at h
    split at h
    · rename_i h0; simp at h0
    · rename_i z r' h0
      simp only [List.cons.injEq] at h0
      obtain ⟨rfl, rfl⟩ := h0
      rw [Option.map_eq_some_iff] at h
      obtain ⟨zs', hz, rfl⟩ := h
      obtain ⟨h1, h2⟩ := intsOf_get hz
      refine ⟨by simp [h1], fun i z' hi => ?_⟩
      cases i with
      | zero => simp at hi; subst hi; rfl
      | succ i => simpa using h2 i z' (by simpa using hi)
    · cases h
theorem putCells_get (c : Array Value) (ys : List Int) (j : Nat) : (putCells (Value.int .i64) 0 ys.toArray c)[j]? = (c[j]?).map fun x => match ys[j]? with | some y => Value.int .i64 y | none => x := by
  unfold putCells
  rw [Array.getElem?_mapIdx]
  cases hc : c[j]? with
  | none => rfl
  | some x =>
    simp only [Option.map_some, Option.some.injEq]
    by_cases hj : j < ys.length
    · rw [if_pos (by simp [hj]), List.getElem?_eq_getElem hj]
      simp [hj]
    · rw [if_neg (by simp; omega), List.getElem?_eq_none (by omega)]
theorem putRow_shape (w : World) (q b : Nat) (ys : List Int) (r : Nat) (x : TypeId × Nat) (hx : w.shape? r = some x) : (putRow (Value.int .i64) (Sort.ahead w q) b 0 ys.toArray).shape? r = some x := by
  unfold World.shape? at hx ⊢
  simp only [putRow, mapBlock, Sort.ahead, Array.getElem?_modify]
  by_cases h : b = r
  · subst h
    rw [if_pos rfl]
    cases ho : w.heap[b]? with
    | none => rw [ho] at hx; cases hx
    | some o =>
      rw [ho] at hx
      cases o with
      | cells c e fr => simpa [onCells, putCells] using hx
      | _ => cases hx
  · rw [if_neg h]; exact hx
section
variable {N : Nam} {c : Ctx} {A : Nat → Prop} {μ lam : Nat → Nat} {w : World} {H : Nat → Option O} {n : Nat}
theorem rel_putInts (R : Rel N c 0 A μ lam (.init [] H n) bareAct w) {k : Nat} {rs : List (List V)} (hk : H k = some (.rows 1 rs false)) (ys : List Int) (hl : ys.length = rs.length) (q : Nat) :
    Rel N c 0 A μ lam (.init [] (upd H k (some (.rows 1 (ofInts ys) false))) n) bareAct (putRow (Value.int .i64) (Sort.ahead w q) (μ k) 0 ys.toArray) := by
  obtain ⟨cc, e0, z, h1, h2, h3, h4, h5⟩ := R.heap k _ hk
  have hz := h2 rfl
  subst hz
  have hget : ∀ r, (putRow (Value.int .i64) (Sort.ahead w q) (μ k) 0 ys.toArray).heap[r]? = if μ k = r then (w.heap[r]?).map (onCells (putCells (Value.int .i64) 0 ys.toArray)) else w.heap[r]? := by
    intro r
    simp only [putRow, mapBlock, Sort.ahead, Array.getElem?_modify]
  refine R.changeH (o' := .rows 1 (ofInts ys) false) hk ⟨rfl, by simp [ofInts, hl]⟩ rfl (by simp) (by simp) rfl ?_ ?_ ?_ ?_ ⟨rfl, rfl⟩
  · simp [putRow, mapBlock, Sort.ahead]
  · intro r hr
    rw [hget, if_neg (fun h => hr h.symm)]
  · exact fun r x hx => putRow_shape w q (μ k) ys r x hx
  · intro E
    refine ⟨putCells (Value.int .i64) 0 ys.toArray cc, e0, (0, 0), ?_, fun _ => rfl, ?_, ?_, ?_⟩
    · rw [hget, if_pos rfl, h1]; rfl
    · have : (putCells (Value.int .i64) 0 ys.toArray cc).size = cc.size := by simp [putCells]
      rw [this]; simp [ofInts, hl]; omega
    · intro i row hi
      simp only [ofInts, List.getElem?_map, Option.map_eq_some_iff] at hi
      obtain ⟨y, _, rfl⟩ := hi
      rfl
    · intro i row j x hi hj
      simp only [ofInts, List.getElem?_map, Option.map_eq_some_iff] at hi
      obtain ⟨y, hy, rfl⟩ := hi
      have hj0 : j = 0 := by
        have := (List.getElem?_eq_some_iff.1 hj).1
        simp at this; exact this
      subst hj0
      simp only [List.getElem?_cons_zero, Option.some.injEq] at hj
      subst hj
      have hlt : i < ys.length := (List.getElem?_eq_some_iff.1 hy).1
      obtain ⟨row, hrow⟩ : ∃ row, rs[i]? = some row := ⟨_, List.getElem?_eq_getElem (by omega)⟩
      have hrl := h4 i row hrow
      obtain ⟨x0, hx0⟩ : ∃ x0, row[0]? = some x0 := ⟨_, List.getElem?_eq_getElem (by omega)⟩
      obtain ⟨v, hv, _⟩ := h5 i row 0 x0 hrow hx0
      refine ⟨.int .i64 y, ?_, .t (.int _ _)⟩
      rw [putCells_get, hv]
      simp [hy]
theorem rel_grow (R : Rel N c 0 A μ lam (.init [] H n) bareAct w) (os : Array Obj) : Rel N c 0 A μ lam (.init [] H n) bareAct (grow w os) := by
  have hget : ∀ r, r < w.heap.size → (grow w os).heap[r]? = w.heap[r]? := fun r hr => by simp [grow, Array.getElem?_append, hr]
  refine R.world (by simp [grow]) ?_ ?_ ?_ (Marks.nil _ _ _) ⟨rfl, rfl⟩
  · rintro r (h | h | ⟨k, o, hk, hl, rfl⟩)
    · exact hget r (R.alt r h)
    · obtain ⟨t, ht, _⟩ := h
      simp [St.init] at ht
    · exact hget _ (R.lt_live hk hl)
  · intro r hr _
    exact hget r (Nat.lt_of_lt_of_le hr R.csize)
  · intro r x hx
    unfold World.shape? at hx ⊢
    by_cases hr : r < w.heap.size
    · rw [hget r hr]; exact hx
    · rw [Array.getElem?_eq_none (by omega)] at hx; cases hx
theorem own_ints (R : Rel N c 0 A μ lam (.init [] H n) bareAct w) {k len : Nat} {rs : List (List V)} {zs : List Int} (hk : H k = some (.rows 1 rs false)) (hz : intsOf rs = some zs) (hl : zs.length = len)
    {v : Value} (hv : RepV w A N.nm μ H v (.ms k 0 len)) :
    ∃ a cap, v = .slice a zs.length cap ∧ zs.length ≤ cap ∧ (zs = [] ∨ a = some ⟨μ k, 0, none⟩) ∧ Holds (Value.int .i64) w (μ k) 0 zs.toArray ∧ μ k < w.heap.size ∧ (cap = 0 ∨ (a = some ⟨μ k, 0, none⟩ ∧ ∃ e m, w.shape? (μ k) = some (e, m) ∧ cap ≤ m)) := by
  obtain ⟨i1, i2⟩ := intsOf_get hz
  obtain ⟨cc, e0, z, h1, h2, h3, h4, h5⟩ := R.heap k _ hk
  have hzz := h2 rfl
  subst hzz
  have hlt : μ k < w.heap.size := R.lt_live hk rfl
  have hH : Holds (Value.int .i64) w (μ k) 0 zs.toArray := by
    intro j hj
    have hj' : j < zs.length := by simpa using hj
    refine ⟨?_, by simp [World.frozen?, h1]⟩
    have hzj : zs[j]? = some zs[j] := List.getElem?_eq_getElem hj'
    obtain ⟨u, hu, hr⟩ := h5 j _ 0 _ (i2 j _ hzj) rfl
    cases hr with
    | t hr =>
      cases hr
      simp only [World.cell?, h1, Nat.zero_add]
      simp only [Nat.mul_one, Nat.add_zero] at hu
      simp [hu, hj']
  have hv1 : RepC w A N.nm μ H v (.ms k 0 len) := hv
  cases hv1 with
  | ms _ _ _ cap sz rs' frz a hk' hi hc ha =>
    rw [hk] at hk'; cases hk'
    subst hl
    refine ⟨a, cap, rfl, by omega, ?_, hH, hlt, ?_⟩
    · rcases ha with h0 | ⟨rfl, _⟩
      · exact .inl (List.eq_nil_of_length_eq_zero (by omega))
      · exact .inr (by simp)
    · rcases ha with h0 | ⟨rfl, e, m, hs, hm⟩
      · exact .inl h0
      · exact .inr ⟨by simp, e, m, hs, by omega⟩
  | dms _ _ _ hk' _ => rw [hk] at hk'; cases hk'
end
theorem one_arg {w : World} {A : Nat → Prop} {nm μ : Nat → Nat} {H : Nat → Option O} {vs : Array Value} {x : V} (h : RepArgs w A nm μ H vs [x]) : ∃ v, vs = #[v] ∧ RepV w A nm μ H v x := by
  obtain ⟨h1, h2⟩ := h
  obtain ⟨v, hv, hr⟩ := h2 0 x rfl
  refine ⟨v, ?_, hr⟩
  apply Array.ext_getElem?
  intro i
  cases i with
  | zero => simpa using hv
  | succ i => rw [Array.getElem?_eq_none (by simp at h1; omega), Array.getElem?_eq_none (by simp)]
theorem upd_id {H : Nat → Option O} {k : Nat} {o : O} (h : H k = some o) : upd H k (some o) = H := by
  funext j; unfold upd; split
  · rename_i e; rw [e, h]
  · rfl
theorem intsOf_nil {rs : List (List V)} (h : intsOf rs = some []) : rs = [] := List.eq_nil_of_length_eq_zero (by simpa using (intsOf_get h).1)
theorem ext_sort {P : Program} {N : Nam} {g : Nat} {ρ : Ren} (Ly : Go.Proofs.Lays.n189 P ρ) (hf : ρ.f 189 = N.nm g) {rf : Func} (hr : Real P (N.nm g) rf) : ExtOK P N g .sortI := by
  refine ⟨⟨rf, hr⟩, fun args H n r H' n' h c A μ lam w vs R ha => ?_⟩
  rw [← hf]
  unfold extSem at h
  split at h
  all_goals (try contradiction)
  · cases h
    obtain ⟨v, rfl, hv⟩ := one_arg ha
    cases hv.t_inv
    refine (Go.Proofs.Any.slices_Sort_int_none Ly _ _ w).mono ?_
    rintro e w' ⟨rfl, rfl⟩
    exact ⟨_, A, μ, lam, rfl, R, ⟨#[], rfl, rfl, by simp⟩⟩
  · rename_i k len _
    split at h
    · rename_i rs hk
      simp only [Option.bind_eq_some_iff] at h
      obtain ⟨zs, hz, h⟩ := h
      split at h
      · rename_i hl
        cases h
        obtain ⟨v, rfl, hv⟩ := one_arg ha
        obtain ⟨a, cap, rfl, hc, hor, hH, hlt, _⟩ := own_ints R hk hz hl.1 hv
        by_cases h0 : zs = []
        · subst h0
          refine (Go.Proofs.Any.slices_Sort_int_none Ly _ _ w).mono ?_
          rintro e w' ⟨rfl, rfl⟩
          have hrs := intsOf_nil hz
          subst hrs
          refine ⟨_, A, μ, lam, rfl, ?_, ⟨#[], rfl, rfl, by simp⟩⟩
          rw [List.mergeSort_nil, show ofInts [] = [] from rfl, upd_id hk]
          exact R
        · obtain rfl := hor.resolve_left h0
          refine (Go.Proofs.Any.slices_Sort_int Ly (μ k) 0 cap zs w hH hlt (by omega)).mono ?_
          rintro e w' ⟨rfl, q, os, rfl⟩
          refine ⟨_, A, μ, lam, rfl, rel_grow (rel_putInts R hk _ ?_ q) os, ⟨#[], rfl, rfl, by simp⟩⟩
          rw [List.length_mergeSort, (intsOf_get hz).1]
      · cases h
    · cases h
theorem compact_le (zs : List Int) : (Go.Lib.compact zs).length ≤ zs.length := by
  unfold Go.Lib.compact Go.Lib.compactUpTo
  rw [List.length_map]
  exact Nat.le_trans (List.length_filter_le _ _) (by simp)
theorem ext_compact {P : Program} {N : Nam} {g : Nat} {ρ : Ren} (Ly : Go.Proofs.Lays2.n20 P ρ) (hf : ρ.f 20 = N.nm g) {rf : Func} (hr : Real P (N.nm g) rf) : ExtOK P N g .compactI := by
  refine ⟨⟨rf, hr⟩, fun args H n r H' n' h c A μ lam w vs R ha => ?_⟩
  rw [← hf]
  unfold extSem at h
  split at h
  all_goals (try contradiction)
  · cases h
    obtain ⟨v, rfl, hv⟩ := one_arg ha
    cases hv.t_inv
    refine (Go.Proofs.Any.slices_Compact_int_empty Ly _ _ w).mono ?_
    rintro e w' ⟨rfl, rfl⟩
    exact ⟨_, A, μ, lam, rfl, R, hv⟩
  · rename_i k len _
    split at h
    · rename_i rs hk
      simp only [Option.bind_eq_some_iff] at h
      obtain ⟨zs, hz, h⟩ := h
      split at h
      · rename_i hl
        cases h
        obtain ⟨v, rfl, hv⟩ := one_arg ha
        obtain ⟨a, cap, rfl, hc, hor, hH, hlt, hcap⟩ := own_ints R hk hz hl.1 hv
        have hcl := compact_le zs
        by_cases h0 : zs = []
        · subst h0
          refine (Go.Proofs.Any.slices_Compact_int_empty Ly _ _ w).mono ?_
          rintro e w' ⟨rfl, rfl⟩
          have hrs := intsOf_nil hz
          subst hrs
          have hcn : Go.Lib.compact ([] : List Int) = [] := rfl
          have hl0 : len = 0 := by simpa using hl.1.symm
          subst hl0
          refine ⟨_, A, μ, lam, rfl, ?_, ?_⟩
          · rw [hcn, show ofInts ([] ++ List.replicate (([] : List Int).length - ([] : List Int).length) 0) = [] from rfl, upd_id hk]
            exact R
          · rw [hcn, show ofInts ([] ++ List.replicate (([] : List Int).length - ([] : List Int).length) 0) = [] from rfl, upd_id hk]
            exact hv
        · obtain rfl := hor.resolve_left h0
          refine (Go.Proofs.Any.slices_Compact_int Ly (μ k) 0 cap zs w hH (by omega) hc).mono ?_
          rintro e w' ⟨rfl, q, rfl⟩
          have hlen : (Go.Lib.compact zs ++ List.replicate (zs.length - (Go.Lib.compact zs).length) 0).length = rs.length := by
            rw [List.length_append, List.length_replicate, (intsOf_get hz).1]; omega
          have R1 := rel_putInts R hk _ hlen q
          refine ⟨_, A, μ, lam, rfl, R1, ?_⟩
          have hcap0 : cap ≠ 0 := by
            intro hcc
            exact h0 (List.eq_nil_of_length_eq_zero (by omega))
          obtain ⟨_, e, m, hs, hm⟩ := hcap.resolve_left hcap0
          refine .ms k 0 _ cap 1 _ false _ (upd_same _ _ _) ?_ (by have e1 := (intsOf_get hz).1; simp only [ofInts, List.length_map, hlen]; omega) (.inr ⟨by simp, e, m, ?_, by omega⟩)
          · simp only [ofInts, List.length_map, hlen, (intsOf_get hz).1]; omega
          · exact putRow_shape w q (μ k) _ _ _ hs
      · cases h
    · cases h
end Rg
end
section
/- The contracts of slices.Sort and slices.Compact, laid at this program (printed by the kit's tool for this seat). No condition. -/
namespace Go.Proofs
open Go.Shelf
def Tryz.lays189_ren : Go.Shelf.Ren := ⟨fun | 189 => 76 | 125 => 96 | 257 => 95 | 128 => 131 | 129 => 132 | 294 => 122 | 295 => 123 | 296 => 124 | 297 => 125 | 298 => 126 | 299 => 127 | 216 => 128 | 300 => 129 | 301 => 130 | 328 => 141 | 329 => 142 | 330 => 143 | 331 => 144 | 332 => 145 | 215 => 146 | 343 => 162 | n => n, fun | 28 => 29 | 3 => 3 | 46 => 139 | 0 => 0 | 51 => 166 | 53 => 168 | 4 => 4 | 183 => 159 | 182 => 158 | 131 => 163 | 5 => 5 | 9 => 9 | 218 => 175 | 222 => 179 | 228 => 189 | 229 => 190 | n => n, fun | n => n⟩
theorem Tryz.lays189 : Go.Proofs.Lays.n189 Tryz.prog Tryz.lays189_ren := {
  mixed := by kernel_rfl
  f125 := Tryz.func96.trans (congrArg some (by kernel_rfl))
  f128 := Tryz.func131.trans (congrArg some (by kernel_rfl))
  f129 := Tryz.func132.trans (congrArg some (by kernel_rfl))
  f189 := Tryz.func76.trans (congrArg some (by kernel_rfl))
  f215 := Tryz.func146.trans (congrArg some (by kernel_rfl))
  f216 := Tryz.func128.trans (congrArg some (by kernel_rfl))
  f257 := Tryz.func95.trans (congrArg some (by kernel_rfl))
  f294 := Tryz.func122.trans (congrArg some (by kernel_rfl))
  f295 := Tryz.func123.trans (congrArg some (by kernel_rfl))
  f296 := Tryz.func124.trans (congrArg some (by kernel_rfl))
  f297 := Tryz.func125.trans (congrArg some (by kernel_rfl))
  f298 := Tryz.func126.trans (congrArg some (by kernel_rfl))
  f299 := Tryz.func127.trans (congrArg some (by kernel_rfl))
  f300 := Tryz.func129.trans (congrArg some (by kernel_rfl))
  f301 := Tryz.func130.trans (congrArg some (by kernel_rfl))
  f328 := Tryz.func141.trans (congrArg some (by kernel_rfl))
  f329 := Tryz.func142.trans (congrArg some (by kernel_rfl))
  f330 := Tryz.func143.trans (congrArg some (by kernel_rfl))
  f331 := Tryz.func144.trans (congrArg some (by kernel_rfl))
  f332 := Tryz.func145.trans (congrArg some (by kernel_rfl))
  f343 := Tryz.func162.trans (congrArg some (by kernel_rfl))
  t0 := Tryz.underlying0
  a0 := Tryz.isAgg0
  z0 := Tryz.sizeOf0
  v0 := Tryz.zeroValue0
  t3 := Tryz.underlying3
  a3 := Tryz.isAgg3
  z3 := Tryz.sizeOf3
  v3 := Tryz.zeroValue3
  t4 := Tryz.underlying4
  a4 := Tryz.isAgg4
  z4 := Tryz.sizeOf4
  v4 := Tryz.zeroValue4
  t5 := Tryz.underlying5
  a5 := Tryz.isAgg5
  z5 := Tryz.sizeOf5
  v5 := Tryz.zeroValue5
  t9 := Tryz.underlying9
  a9 := Tryz.isAgg9
  z9 := Tryz.sizeOf9
  v9 := Tryz.zeroValue9
  t28 := Tryz.underlying29
  a28 := Tryz.isAgg29
  z28 := Tryz.sizeOf29
  v28 := Tryz.zeroValue29
  t46 := Tryz.underlying139
  a46 := Tryz.isAgg139
  z46 := Tryz.sizeOf139
  v46 := Tryz.zeroValue139
  t51 := Tryz.underlying166
  a51 := Tryz.isAgg166
  z51 := Tryz.sizeOf166
  v51 := Tryz.zeroValue166
  t53 := Tryz.underlying168
  a53 := Tryz.isAgg168
  z53 := Tryz.sizeOf168
  v53 := Tryz.zeroValue168
  t131 := Tryz.underlying163
  a131 := Tryz.isAgg163
  z131 := Tryz.sizeOf163
  v131 := Tryz.zeroValue163
  t182 := Tryz.underlying158
  a182 := Tryz.isAgg158
  z182 := Tryz.sizeOf158
  v182 := Tryz.zeroValue158
  t183 := Tryz.underlying159
  a183 := Tryz.isAgg159
  z183 := Tryz.sizeOf159
  v183 := Tryz.zeroValue159
  t218 := Tryz.underlying175
  a218 := Tryz.isAgg175
  z218 := Tryz.sizeOf175
  v218 := Tryz.zeroValue175
  t222 := Tryz.underlying179
  a222 := Tryz.isAgg179
  z222 := Tryz.sizeOf179
  v222 := Tryz.zeroValue179
  t228 := Tryz.underlying189
  a228 := Tryz.isAgg189
  z228 := Tryz.sizeOf189
  v228 := Tryz.zeroValue189
  t229 := Tryz.underlying190
  a229 := Tryz.isAgg190
  z229 := Tryz.sizeOf190
  v229 := Tryz.zeroValue190 }
def Tryz.lays2n20_ren : Go.Shelf.Ren := ⟨fun | 20 => 77 | n => n, fun | 22 => 29 | 3 => 3 | 4 => 4 | 0 => 0 | n => n, fun | n => n⟩
theorem Tryz.lays2n20 : Go.Proofs.Lays2.n20 Tryz.prog Tryz.lays2n20_ren := {
  mixed := by kernel_rfl
  f20 := Tryz.func77.trans (congrArg some (by kernel_rfl))
  t0 := Tryz.underlying0
  a0 := Tryz.isAgg0
  z0 := Tryz.sizeOf0
  v0 := Tryz.zeroValue0
  t3 := Tryz.underlying3
  a3 := Tryz.isAgg3
  z3 := Tryz.sizeOf3
  v3 := Tryz.zeroValue3
  t4 := Tryz.underlying4
  a4 := Tryz.isAgg4
  z4 := Tryz.sizeOf4
  v4 := Tryz.zeroValue4
  t22 := Tryz.underlying29
  a22 := Tryz.isAgg29
  z22 := Tryz.sizeOf29
  v22 := Tryz.zeroValue29
  i3 := by kernel_rfl }
end Go.Proofs
end
section
/- The functions of the abstract machine's table are those of the program (printed by a program). -/
set_option maxRecDepth 100000
namespace Rg
open Go Go.Proofs Go.Proofs.YtnfmmdkonagnaaaGreatDoor
namespace Seat
def tbl : List Nat := [2, 3, 4, 5, 6, 7, 8, 9, 10, 11, 12, 13, 14, 15, 16, 17, 18, 19, 20, 21, 22, 23, 24, 25, 26, 27, 28, 29, 30, 31, 32, 33, 34, 35, 36, 37, 38, 39, 40, 41, 42, 43, 44, 45, 46, 47, 48, 49, 50, 51, 52, 53, 54, 55, 56, 57, 58, 59, 60, 61, 62, 63, 64, 65, 66, 67, 68, 69, 70, 71, 72, 73, 74, 75, 76, 77, 78, 79, 80, 81, 82, 83, 84, 85, 86, 87, 88, 89, 90, 91, 92, 93, 94, 95, 96, 97, 98, 99, 100, 101, 102, 103, 104, 105, 106, 107, 108, 109, 110, 111, 112, 113, 114, 115, 116, 117, 118, 119, 120, 121, 122, 123, 124, 125, 126, 127, 128, 129, 130, 131, 132, 133, 134, 135, 136, 137, 138, 139, 140, 141, 142, 143, 144, 145, 146, 147, 148, 149, 150, 151, 152, 153, 154, 155, 156, 157, 158, 159, 160, 161, 162, 163, 164, 165, 166, 167, 168, 189, 1000168, 1000169, 1000170, 1000171, 1000172, 1000173, 1000174, 1000175, 1000176, 1000177, 1000178, 1000179, 1000180, 1000181, 1000182, 1000183, 1000184, 1000185, 1000186, 1000187, 1000188, 1000189, 1000190, 1000191, 1000192, 1000193, 1000194, 1000195, 1000196, 1000197, 1000198, 1000199, 1000200, 1000201, 1000202, 1000203, 1000204, 1000205, 1000206, 1000207]
def I : Inv := ⟨fun f => tbl.findIdx? (· == f), fun g => if g = 0 then some 0 else none⟩
def N : Nam := ⟨fun k => tbl.getD k 0, fun _ => 0, G, CR Tryz.prog I⟩
def raws (s : List Nat) : Raws := ⟨[52, 53, 54, 57, 60, 70, 74, 75, 76, 77, 83, 93, 97, 120, 121, 122, 123, 124, 125, 127, 128, 136, 139, 141, 142, 143, 158, 160, 199, 200, 202, 203], s, [32, 78, 198]⟩
def Ent (q : Nat × F) : Prop := (∃ rf rw L raw, Tryz.prog.funcs[N.nm q.1]? = some rf ∧ compF Tryz.prog I rw L raw rf = some q.2) ∨ ∃ e, q.2.body = .ext e ∧ ExtOK Tryz.prog N q.1 e
theorem e7 : Ent (7, f7) := .inl ⟨Tryz.f9, raws [], [20, 18, 16, 13, 12, 10, 4], false, Tryz.func9, by kernel_rfl⟩
theorem e8 : Ent (8, f8) := .inl ⟨Tryz.f10, raws [], [8, 6, 4, 2, 1], false, Tryz.func10, by kernel_rfl⟩
theorem e9 : Ent (9, f9) := .inl ⟨Tryz.f11, raws [], [5, 1], false, Tryz.func11, by kernel_rfl⟩
theorem e12 : Ent (12, f12) := .inl ⟨Tryz.f14, raws [], [3, 2, 1], false, Tryz.func14, by kernel_rfl⟩
theorem e13 : Ent (13, f13) := .inl ⟨Tryz.f15, raws [], [3, 2, 1], false, Tryz.func15, by kernel_rfl⟩
theorem e15 : Ent (15, f15) := .inl ⟨Tryz.f17, raws [], [7, 6, 3], false, Tryz.func17, by kernel_rfl⟩
theorem e16 : Ent (16, f16) := .inl ⟨Tryz.f18, raws [], [1], false, Tryz.func18, by kernel_rfl⟩
theorem e17 : Ent (17, f17) := .inl ⟨Tryz.f19, raws [], [3, 2], false, Tryz.func19, by kernel_rfl⟩
theorem e18 : Ent (18, f18) := .inl ⟨Tryz.f20, raws [], [9, 6, 5, 4, 3], false, Tryz.func20, by kernel_rfl⟩
theorem e19 : Ent (19, f19) := .inl ⟨Tryz.f21, raws [], [3, 2], false, Tryz.func21, by kernel_rfl⟩
theorem e20 : Ent (20, f20) := .inl ⟨Tryz.f22, raws [], [3], false, Tryz.func22, by kernel_rfl⟩
theorem e21 : Ent (21, f21) := .inl ⟨Tryz.f23, raws [], [4, 3], false, Tryz.func23, by kernel_rfl⟩
theorem e22 : Ent (22, f22) := .inl ⟨Tryz.f24, raws [], [3, 2], false, Tryz.func24, by kernel_rfl⟩
theorem e23 : Ent (23, f23) := .inl ⟨Tryz.f25, raws [], [2], false, Tryz.func25, by kernel_rfl⟩
theorem e24 : Ent (24, f24) := .inl ⟨Tryz.f26, raws [], [3], false, Tryz.func26, by kernel_rfl⟩
theorem e25 : Ent (25, f25) := .inl ⟨Tryz.f27, raws [], [3, 2], false, Tryz.func27, by kernel_rfl⟩
theorem e27 : Ent (27, f27) := .inl ⟨Tryz.f29, raws [], [], false, Tryz.func29, by kernel_rfl⟩
theorem e28 : Ent (28, f28) := .inl ⟨Tryz.f30, raws [], [5, 1], false, Tryz.func30, by kernel_rfl⟩
theorem e29 : Ent (29, f29) := .inl ⟨Tryz.f31, raws [], [], false, Tryz.func31, by kernel_rfl⟩
theorem e31 : Ent (31, f31) := .inl ⟨Tryz.f33, raws [], [6, 1], false, Tryz.func33, by kernel_rfl⟩
theorem e32 : Ent (32, f32) := .inl ⟨Tryz.f34, raws [], [], true, Tryz.func34, by kernel_rfl⟩
theorem e33 : Ent (33, f33) := .inl ⟨Tryz.f35, raws [], [], false, Tryz.func35, by kernel_rfl⟩
theorem e34 : Ent (34, f34) := .inl ⟨Tryz.f36, raws [], [], false, Tryz.func36, by kernel_rfl⟩
theorem e35 : Ent (35, f35) := .inl ⟨Tryz.f37, raws [], [5, 4, 3, 1, 0], false, Tryz.func37, by kernel_rfl⟩
theorem e36 : Ent (36, f36) := .inl ⟨Tryz.f38, raws [], [1], false, Tryz.func38, by kernel_rfl⟩
theorem e38 : Ent (38, f38) := .inl ⟨Tryz.f40, raws [], [1], false, Tryz.func40, by kernel_rfl⟩
theorem e39 : Ent (39, f39) := .inl ⟨Tryz.f41, raws [], [1], false, Tryz.func41, by kernel_rfl⟩
theorem e42 : Ent (42, f42) := .inl ⟨Tryz.f44, raws [], [9, 8, 6, 5, 4, 3], false, Tryz.func44, by kernel_rfl⟩
theorem e43 : Ent (43, f43) := .inl ⟨Tryz.f45, raws [], [9, 3, 2], false, Tryz.func45, by kernel_rfl⟩
theorem e44 : Ent (44, f44) := .inl ⟨Tryz.f46, raws [], [3, 2], false, Tryz.func46, by kernel_rfl⟩
theorem e45 : Ent (45, f45) := .inl ⟨Tryz.f47, raws [], [10, 8, 7, 6, 5, 4, 3], false, Tryz.func47, by kernel_rfl⟩
theorem e46 : Ent (46, f46) := .inl ⟨Tryz.f48, raws [], [3], false, Tryz.func48, by kernel_rfl⟩
theorem e47 : Ent (47, f47) := .inl ⟨Tryz.f49, raws [], [2], false, Tryz.func49, by kernel_rfl⟩
theorem e48 : Ent (48, f48) := .inl ⟨Tryz.f50, raws [], [1], false, Tryz.func50, by kernel_rfl⟩
theorem e49 : Ent (49, f49) := .inl ⟨Tryz.f51, raws [], [3], false, Tryz.func51, by kernel_rfl⟩
theorem e50 : Ent (50, f50) := .inl ⟨Tryz.f52, raws [], [7, 5, 4], false, Tryz.func52, by kernel_rfl⟩
theorem e51 : Ent (51, f51) := .inl ⟨Tryz.f53, raws [7], [], false, Tryz.func53, by kernel_rfl⟩
theorem e56 : Ent (56, f56) := .inl ⟨Tryz.f58, raws [], [7], false, Tryz.func58, by kernel_rfl⟩
theorem e57 : Ent (57, f57) := .inl ⟨Tryz.f59, raws [], [], true, Tryz.func59, by kernel_rfl⟩
theorem e60 : Ent (60, f60) := .inl ⟨Tryz.f62, raws [], [], true, Tryz.func62, by kernel_rfl⟩
theorem e61 : Ent (61, f61) := .inl ⟨Tryz.f63, raws [], [4], false, Tryz.func63, by kernel_rfl⟩
theorem e62 : Ent (62, f62) := .inl ⟨Tryz.f64, raws [], [4], false, Tryz.func64, by kernel_rfl⟩
theorem e63 : Ent (63, f63) := .inl ⟨Tryz.f65, raws [], [8, 7, 6], false, Tryz.func65, by kernel_rfl⟩
theorem e64 : Ent (64, f64) := .inl ⟨Tryz.f66, raws [], [13, 5, 1], false, Tryz.func66, by kernel_rfl⟩
theorem e65 : Ent (65, f65) := .inl ⟨Tryz.f67, raws [], [1], false, Tryz.func67, by kernel_rfl⟩
theorem e66 : Ent (66, f66) := .inl ⟨Tryz.f68, raws [], [], false, Tryz.func68, by kernel_rfl⟩
theorem e67 : Ent (67, f67) := .inl ⟨Tryz.f69, raws [], [9, 5, 4], false, Tryz.func69, by kernel_rfl⟩
theorem e68 : Ent (68, f68) := .inl ⟨Tryz.f70, raws [], [2], false, Tryz.func70, by kernel_rfl⟩
theorem e69 : Ent (69, f69) := .inl ⟨Tryz.f71, raws [], [3], false, Tryz.func71, by kernel_rfl⟩
theorem e70 : Ent (70, f70) := .inl ⟨Tryz.f72, raws [38], [], true, Tryz.func72, by kernel_rfl⟩
theorem e71 : Ent (71, f71) := .inl ⟨Tryz.f73, raws [], [], false, Tryz.func73, by kernel_rfl⟩
theorem e72 : Ent (72, f72) := .inl ⟨Tryz.f74, raws [], [], false, Tryz.func74, by kernel_rfl⟩
theorem e73 : Ent (73, f73) := .inl ⟨Tryz.f75, raws [], [3], false, Tryz.func75, by kernel_rfl⟩
theorem e74 : Ent (74, f74) := .inr ⟨.sortI, rfl, ext_sort Tryz.lays189 (by kernel_rfl) (rf := Tryz.f76) ⟨Tryz.func76, by kernel_rfl, by kernel_rfl⟩⟩
theorem e75 : Ent (75, f75) := .inr ⟨.compactI, rfl, ext_compact Tryz.lays2n20 (by kernel_rfl) (rf := Tryz.f77) ⟨Tryz.func77, by kernel_rfl, by kernel_rfl⟩⟩
theorem e76 : Ent (76, f76) := .inl ⟨Tryz.f78, raws [13], [], true, Tryz.func78, by kernel_rfl⟩
theorem e77 : Ent (77, f77) := .inl ⟨Tryz.f79, raws [], [], true, Tryz.func79, by kernel_rfl⟩
theorem e78 : Ent (78, f78) := .inl ⟨Tryz.f80, raws [], [1], true, Tryz.func80, by kernel_rfl⟩
theorem e79 : Ent (79, f79) := .inl ⟨Tryz.f81, raws [], [6, 4, 1], false, Tryz.func81, by kernel_rfl⟩
theorem e80 : Ent (80, f80) := .inl ⟨Tryz.f82, raws [], [5, 1], false, Tryz.func82, by kernel_rfl⟩
theorem e81 : Ent (81, f81) := .inl ⟨Tryz.f83, raws [], [5, 1], false, Tryz.func83, by kernel_rfl⟩
theorem e82 : Ent (82, f82) := .inl ⟨Tryz.f84, raws [], [6, 5, 1], false, Tryz.func84, by kernel_rfl⟩
theorem e83 : Ent (83, f83) := .inl ⟨Tryz.f85, raws [], [14, 12], true, Tryz.func85, by kernel_rfl⟩
theorem e84 : Ent (84, f84) := .inl ⟨Tryz.f86, raws [], [5, 1], false, Tryz.func86, by kernel_rfl⟩
theorem e85 : Ent (85, f85) := .inl ⟨Tryz.f87, raws [], [4, 1], false, Tryz.func87, by kernel_rfl⟩
theorem e86 : Ent (86, f86) := .inl ⟨Tryz.f88, raws [], [4, 1], false, Tryz.func88, by kernel_rfl⟩
theorem e87 : Ent (87, f87) := .inl ⟨Tryz.f89, raws [], [4, 1], false, Tryz.func89, by kernel_rfl⟩
theorem e88 : Ent (88, f88) := .inl ⟨Tryz.f90, raws [], [13, 6, 2], false, Tryz.func90, by kernel_rfl⟩
theorem e89 : Ent (89, f89) := .inl ⟨Tryz.f91, raws [], [1], false, Tryz.func91, by kernel_rfl⟩
theorem e90 : Ent (90, f90) := .inl ⟨Tryz.f92, raws [], [3], false, Tryz.func92, by kernel_rfl⟩
theorem e91 : Ent (91, f91) := .inl ⟨Tryz.f93, raws [], [], false, Tryz.func93, by kernel_rfl⟩
theorem e92 : Ent (92, f92) := .inl ⟨Tryz.f94, raws [], [], false, Tryz.func94, by kernel_rfl⟩
theorem e95 : Ent (95, f95) := .inl ⟨Tryz.f97, raws [], [], false, Tryz.func97, by kernel_rfl⟩
theorem e96 : Ent (96, f96) := .inl ⟨Tryz.f98, raws [], [], false, Tryz.func98, by kernel_rfl⟩
theorem e97 : Ent (97, f97) := .inl ⟨Tryz.f99, raws [], [5], true, Tryz.func99, by kernel_rfl⟩
theorem e98 : Ent (98, f98) := .inl ⟨Tryz.f100, raws [], [1], false, Tryz.func100, by kernel_rfl⟩
theorem e99 : Ent (99, f99) := .inl ⟨Tryz.f101, raws [], [5, 4], false, Tryz.func101, by kernel_rfl⟩
theorem e100 : Ent (100, f100) := .inl ⟨Tryz.f102, raws [], [2], false, Tryz.func102, by kernel_rfl⟩
theorem e101 : Ent (101, f101) := .inl ⟨Tryz.f103, raws [], [], false, Tryz.func103, by kernel_rfl⟩
theorem e102 : Ent (102, f102) := .inl ⟨Tryz.f104, raws [], [], false, Tryz.func104, by kernel_rfl⟩
theorem e103 : Ent (103, f103) := .inl ⟨Tryz.f105, raws [], [], false, Tryz.func105, by kernel_rfl⟩
theorem e104 : Ent (104, f104) := .inl ⟨Tryz.f106, raws [], [], false, Tryz.func106, by kernel_rfl⟩
theorem e105 : Ent (105, f105) := .inl ⟨Tryz.f107, raws [], [13, 12, 7, 6, 4], false, Tryz.func107, by kernel_rfl⟩
theorem e106 : Ent (106, f106) := .inl ⟨Tryz.f108, raws [], [], false, Tryz.func108, by kernel_rfl⟩
theorem e107 : Ent (107, f107) := .inl ⟨Tryz.f109, raws [], [], false, Tryz.func109, by kernel_rfl⟩
theorem e108 : Ent (108, f108) := .inl ⟨Tryz.f110, raws [], [2], false, Tryz.func110, by kernel_rfl⟩
theorem e109 : Ent (109, f109) := .inl ⟨Tryz.f111, raws [], [], false, Tryz.func111, by kernel_rfl⟩
theorem e110 : Ent (110, f110) := .inl ⟨Tryz.f112, raws [], [], false, Tryz.func112, by kernel_rfl⟩
theorem e111 : Ent (111, f111) := .inl ⟨Tryz.f113, raws [], [1], false, Tryz.func113, by kernel_rfl⟩
theorem e112 : Ent (112, f112) := .inl ⟨Tryz.f114, raws [], [5, 4], false, Tryz.func114, by kernel_rfl⟩
theorem e113 : Ent (113, f113) := .inl ⟨Tryz.f115, raws [], [], false, Tryz.func115, by kernel_rfl⟩
theorem e114 : Ent (114, f114) := .inl ⟨Tryz.f116, raws [], [5, 3], false, Tryz.func116, by kernel_rfl⟩
theorem e115 : Ent (115, f115) := .inl ⟨Tryz.f117, raws [], [5, 4], false, Tryz.func117, by kernel_rfl⟩
theorem e116 : Ent (116, f116) := .inl ⟨Tryz.f118, raws [], [], false, Tryz.func118, by kernel_rfl⟩
theorem e117 : Ent (117, f117) := .inl ⟨Tryz.f119, raws [], [], false, Tryz.func119, by kernel_rfl⟩
theorem e118 : Ent (118, f118) := .inl ⟨Tryz.f120, raws [], [], false, Tryz.func120, by kernel_rfl⟩
theorem e119 : Ent (119, f119) := .inl ⟨Tryz.f121, raws [], [2], false, Tryz.func121, by kernel_rfl⟩
theorem e131 : Ent (131, f131) := .inl ⟨Tryz.f133, raws [], [], false, Tryz.func133, by kernel_rfl⟩
theorem e132 : Ent (132, f132) := .inl ⟨Tryz.f134, raws [], [], false, Tryz.func134, by kernel_rfl⟩
theorem e133 : Ent (133, f133) := .inl ⟨Tryz.f135, raws [], [], false, Tryz.func135, by kernel_rfl⟩
theorem e134 : Ent (134, f134) := .inl ⟨Tryz.f136, raws [], [], false, Tryz.func136, by kernel_rfl⟩
theorem e135 : Ent (135, f135) := .inl ⟨Tryz.f137, raws [], [0], false, Tryz.func137, by kernel_rfl⟩
theorem e136 : Ent (136, f136) := .inl ⟨Tryz.f138, raws [], [], true, Tryz.func138, by kernel_rfl⟩
theorem e137 : Ent (137, f137) := .inl ⟨Tryz.f139, raws [], [12, 5, 3], false, Tryz.func139, by kernel_rfl⟩
theorem e138 : Ent (138, f138) := .inl ⟨Tryz.f140, raws [], [1], false, Tryz.func140, by kernel_rfl⟩
theorem e145 : Ent (145, f145) := .inl ⟨Tryz.f147, raws [], [], false, Tryz.func147, by kernel_rfl⟩
theorem e146 : Ent (146, f146) := .inl ⟨Tryz.f148, raws [], [], false, Tryz.func148, by kernel_rfl⟩
theorem e147 : Ent (147, f147) := .inl ⟨Tryz.f149, raws [], [5, 3], false, Tryz.func149, by kernel_rfl⟩
theorem e148 : Ent (148, f148) := .inl ⟨Tryz.f150, raws [], [11, 9, 5, 3], false, Tryz.func150, by kernel_rfl⟩
theorem e149 : Ent (149, f149) := .inl ⟨Tryz.f151, raws [], [5], false, Tryz.func151, by kernel_rfl⟩
theorem e150 : Ent (150, f150) := .inl ⟨Tryz.f152, raws [], [5, 3], false, Tryz.func152, by kernel_rfl⟩
theorem e151 : Ent (151, f151) := .inl ⟨Tryz.f153, raws [], [5, 3], false, Tryz.func153, by kernel_rfl⟩
theorem e152 : Ent (152, f152) := .inl ⟨Tryz.f154, raws [], [5, 3], false, Tryz.func154, by kernel_rfl⟩
theorem e153 : Ent (153, f153) := .inl ⟨Tryz.f155, raws [], [5, 3], false, Tryz.func155, by kernel_rfl⟩
theorem e154 : Ent (154, f154) := .inl ⟨Tryz.f156, raws [], [3], false, Tryz.func156, by kernel_rfl⟩
theorem e155 : Ent (155, f155) := .inl ⟨Tryz.f157, raws [], [2], false, Tryz.func157, by kernel_rfl⟩
theorem e156 : Ent (156, f156) := .inl ⟨Tryz.f158, raws [], [3, 2], false, Tryz.func158, by kernel_rfl⟩
theorem e157 : Ent (157, f157) := .inl ⟨Tryz.f159, raws [], [0], false, Tryz.func159, by kernel_rfl⟩
theorem e158 : Ent (158, f158) := .inl ⟨Tryz.f160, raws [], [3], true, Tryz.func160, by kernel_rfl⟩
theorem e159 : Ent (159, f159) := .inl ⟨Tryz.f161, raws [], [], false, Tryz.func161, by kernel_rfl⟩
theorem e161 : Ent (161, f161) := .inl ⟨Tryz.f163, raws [], [6, 2], false, Tryz.func163, by kernel_rfl⟩
theorem e162 : Ent (162, f162) := .inl ⟨Tryz.f164, raws [], [6], false, Tryz.func164, by kernel_rfl⟩
theorem e163 : Ent (163, f163) := .inl ⟨Tryz.f165, raws [], [2], false, Tryz.func165, by kernel_rfl⟩
theorem e164 : Ent (164, f164) := .inl ⟨Tryz.f166, raws [], [], false, Tryz.func166, by kernel_rfl⟩
theorem e165 : Ent (165, f165) := .inl ⟨Tryz.f167, raws [], [1], false, Tryz.func167, by kernel_rfl⟩
theorem e166 : Ent (166, f166) := .inl ⟨Tryz.f168, raws [], [1], false, Tryz.func168, by kernel_rfl⟩
theorem all : ∀ q ∈ tabL, Ent q := by
  unfold tabL
  simp only [List.forall_mem_cons]
  exact ⟨e7, e8, e9, e12, e13, e15, e16, e17, e18, e19, e20, e21, e22, e23, e24, e25, e27, e28, e29, e31, e32, e33, e34, e35, e36, e38, e39, e42, e43, e44, e45, e46, e47, e48, e49, e50, e51, e56, e57, e60, e61, e62, e63, e64, e65, e66, e67, e68, e69, e70, e71, e72, e73, e74, e75, e76, e77, e78, e79, e80, e81, e82, e83, e84, e85, e86, e87, e88, e89, e90, e91, e92, e95, e96, e97, e98, e99, e100, e101, e102, e103, e104, e105, e106, e107, e108, e109, e110, e111, e112, e113, e114, e115, e116, e117, e118, e119, e131, e132, e133, e134, e135, e136, e137, e138, e145, e146, e147, e148, e149, e150, e151, e152, e153, e154, e155, e156, e157, e158, e159, e161, e162, e163, e164, e165, e166, fun _ h => by cases h⟩
end Seat
end Rg
end
section
/- Rh, part A: the data of the program as Lean data, and the trees that stand for them. No condition. -/
namespace Rg
open Go
abbrev ti (n : Int) : T := .int .i64 n
abbrev tb (b : Bool) : T := .bool b
abbrev ints (l : List Int) : T := .sl (l.map fun n => [ti n])
@[go_sem] theorem beqI (a b : Int) : (a == b) = decide (a = b) := by by_cases h : a = b <;> simp [h]
@[go_sem] theorem bneI (a b : Int) : (a != b) = decide (¬ a = b) := by by_cases h : a = b <;> simp [h]
@[go_sem] theorem wl_1 : IntKind.i64.wrap 1 = 1 := by rw [IntKind.wrap_i64]; rfl
@[go_sem] theorem wl_2 : IntKind.i64.wrap 2 = 2 := by rw [IntKind.wrap_i64]; rfl
@[go_sem] theorem wl_3 : IntKind.i64.wrap 3 = 3 := by rw [IntKind.wrap_i64]; rfl
inductive Expr where
  | mk (op w n : Int) (kids : List Expr)
  deriving Inhabited
namespace Expr
def op : Expr → Int | .mk o _ _ _ => o
def w : Expr → Int | .mk _ w _ _ => w
def n : Expr → Int | .mk _ _ n _ => n
def kids : Expr → List Expr | .mk _ _ _ k => k
@[go_sem] theorem op_mk (o w n : Int) (k : List Expr) : (Expr.mk o w n k).op = o := rfl
@[go_sem] theorem w_mk (o w n : Int) (k : List Expr) : (Expr.mk o w n k).w = w := rfl
@[go_sem] theorem n_mk (o w n : Int) (k : List Expr) : (Expr.mk o w n k).n = n := rfl
@[go_sem] theorem kids_mk (o w n : Int) (k : List Expr) : (Expr.mk o w n k).kids = k := rfl
mutual
def enc : Expr → List T
  | .mk o w n k => [ti o, ti w, ti n, .sl (encs k)]
def encs : List Expr → List (List T)
  | [] => []
  | e :: r => enc e :: encs r
end
theorem encs_eq : ∀ l : List Expr, encs l = l.map enc
  | [] => rfl
  | e :: r => by rw [encs, encs_eq r]; rfl
theorem enc_eq (e : Expr) : e.enc = [ti e.op, ti e.w, ti e.n, .sl (e.kids.map enc)] := by
  cases e; simp only [enc, encs_eq, op, w, n, kids]
mutual
def size : Expr → Nat
  | .mk _ _ _ k => sizes k + 1
def sizes : List Expr → Nat
  | [] => 0
  | e :: r => size e + sizes r
end
theorem sizes_eq : ∀ l : List Expr, sizes l = (l.map size).sum
  | [] => rfl
  | e :: r => by rw [sizes, sizes_eq r]; rfl
theorem size_eq (e : Expr) : e.size = (e.kids.map size).sum + 1 := by
  cases e; simp only [size, sizes_eq, kids]
theorem size_pos (e : Expr) : 0 < e.size := by rw [size_eq]; omega
theorem size_kid {e k : Expr} (h : k ∈ e.kids) : k.size < e.size := by
  rw [size_eq e]
  have : k.size ≤ (e.kids.map size).sum := by
    generalize e.kids = l at h
    induction l with
    | nil => simp at h
    | cons x r ih =>
      simp only [List.map_cons, List.sum_cons]
      rcases List.mem_cons.1 h with rfl | h
      · omega
      · have := ih h; omega
  omega
theorem ind {P : Expr → Prop} (h : ∀ e : Expr, (∀ k ∈ e.kids, P k) → P e) : ∀ e, P e := by
  intro e
  generalize hn : e.size = n
  induction n using Nat.strongRecOn generalizing e with
  | _ n ih => exact h e fun k hk => ih k.size (by have := size_kid hk; omega) k rfl
mutual
def allE (f : Expr → Bool) : Expr → Bool
  | .mk o w n k => f (.mk o w n k) && allEs f k
def allEs (f : Expr → Bool) : List Expr → Bool
  | [] => true
  | e :: r => allE f e && allEs f r
end
theorem allEs_eq (f : Expr → Bool) : ∀ l : List Expr, allEs f l = l.all (allE f)
  | [] => rfl
  | e :: r => by rw [allEs, allEs_eq f r]; rfl
theorem allE_eq (f : Expr → Bool) (e : Expr) : allE f e = (f e && e.kids.all (allE f)) := by
  cases e; simp only [allE, allEs_eq, kids]
theorem allE_self {f : Expr → Bool} {e : Expr} (h : allE f e = true) : f e = true := by
  rw [allE_eq] at h; simp only [Bool.and_eq_true] at h; exact h.1
theorem allE_kid {f : Expr → Bool} {e k : Expr} (h : allE f e = true) (hk : k ∈ e.kids) : allE f k = true := by
  rw [allE_eq] at h; simp only [Bool.and_eq_true, List.all_eq_true] at h; exact h.2 k hk
theorem len_le_size (ks : List Expr) : ks.length ≤ (ks.map size).sum := by
  induction ks with
  | nil => simp
  | cons x r ih => have := size_pos x; simp only [List.length_cons, List.map_cons, List.sum_cons]; omega
theorem take_le_size (ks : List Expr) (i : Nat) : ((ks.take i).map size).sum ≤ (ks.map size).sum := by
  induction ks generalizing i with
  | nil => simp
  | cons x r ih => cases i with
    | zero => simp
    | succ i => have := ih i; simp only [List.take_succ_cons, List.map_cons, List.sum_cons]; omega
def kw (e : Expr) (i : Nat) : Int := (e.kids.getD i (.mk 0 0 0 [])).w
end Expr
structure Cell where
  name : ByteArray
  w : Int
  init : Int
  thread : Int
  ghost : Bool
  module : Int
  deriving Inhabited
def Cell.enc (c : Cell) : List T := [.str c.name, ti c.w, ti c.init, ti c.thread, tb c.ghost, ti c.module]
structure Assign where
  cell : Int
  to : Expr
  deriving Inhabited
def Assign.enc (a : Assign) : List T := ti a.cell :: a.to.enc
structure Step where
  kind : Int
  fr : Int
  to : Int
  guard : Expr
  set : List Assign
  release : Bool
  target : Int
  module : Int
  deriving Inhabited
def Step.enc (s : Step) : List T := [ti s.kind, ti s.fr, ti s.to] ++ s.guard.enc ++ [.sl (s.set.map Assign.enc), tb s.release, ti s.target, ti s.module]
structure Loop where
  head : Int
  body : List Int
  variant : Expr
  deriving Inhabited
def Loop.enc (l : Loop) : List T := [ti l.head, ints l.body] ++ l.variant.enc
structure Thread where
  name : ByteArray
  points : Int
  asserts : List Expr
  modules : List Int
  steps : List Step
  loops : List Loop
  asleep : Bool
  deriving Inhabited
def Thread.enc (t : Thread) : List T :=
  [.str t.name, ti t.points, .sl (t.asserts.map Expr.enc), ints t.modules, .sl (t.steps.map Step.enc), .sl (t.loops.map Loop.enc), tb t.asleep]
structure Contract where
  name : ByteArray
  owner : ByteArray
  rely : Expr
  guar : Expr
  frame : List Int
  deriving Inhabited
def Contract.enc (c : Contract) : List T := [.str c.name, .str c.owner] ++ c.rely.enc ++ c.guar.enc ++ [ints c.frame]
structure Lock where
  cell : Int
  inv : Expr
  module : Int
  deriving Inhabited
def Lock.enc (l : Lock) : List T := [ti l.cell] ++ l.inv.enc ++ [ti l.module]
structure Prog where
  cells : List Cell
  modules : List Contract
  locks : List Lock
  threads : List Thread
  deriving Inhabited
def Prog.enc (p : Prog) : List T := [.sl (p.cells.map Cell.enc), .sl (p.modules.map Contract.enc), .sl (p.locks.map Lock.enc), .sl (p.threads.map Thread.enc)]
structure Entry where
  cells : List Int
  values : List Int
  deriving Inhabited, DecidableEq
def Entry.enc (e : Entry) : List T := [ints e.cells, ints e.values]
structure Config where
  mem : List Int
  at_ : List Int
  buf : List (List Entry)
  deriving Inhabited, DecidableEq
def Config.enc (c : Config) : List T := [ints c.mem, ints c.at_, .sl (c.buf.map fun b => [.sl (b.map Entry.enc)])]
structure Choice where
  thread : Int
  step : Int
  cell : Int
  deriving Inhabited, DecidableEq
def Choice.enc (c : Choice) : List T := [ti c.thread, ti c.step, ti c.cell]
attribute [go_sem] Expr.enc_eq Cell.enc Assign.enc Step.enc Loop.enc Thread.enc Contract.enc Lock.enc Prog.enc Entry.enc Config.enc Choice.enc
def ag (l : List T) : V := .agg (l.map V.t)
theorem wrapS (i : Nat) (h : i < 2 ^ 62) : IntKind.i64.wrap ((i : Int) + 1) = ((i + 1 : Nat) : Int) := by rw [wrap64 (by omega)]; omega
theorem take_succ_of {α : Type} {l : List α} {i : Nat} {x : α} (h : l[i]? = some x) : l.take (i + 1) = l.take i ++ [x] := by
  rw [List.take_add_one, h]; rfl
theorem pow2_le {i k : Nat} (h : i ≤ k) : (2 : Int) ^ i ≤ 2 ^ k := by
  have := Nat.pow_le_pow_right (n := 2) (by omega) h
  exact_mod_cast this
theorem pow2_pos (i : Nat) : 0 < (2 : Int) ^ i := Int.pow_pos (by omega)
theorem get_of {α : Type} {l : List α} {i : Nat} (h : i < l.length) : ∃ x, l[i]? = some x ∧ x ∈ l := ⟨l[i], List.getElem?_eq_getElem h, List.getElem_mem h⟩
end Rg
end
