/- Part of the proof of the laws of the package relyguardlaw11: an abstract machine for the program's functions, what they compute, and that the machine is the program's. No condition. (RgX) -/
import Derived.Laws.BitsLemmas
import Derived.Attr
import Derived.Test.YtnfmmdkonagnaaaGreatDoorPartAI
section
/- Rg, part X: short forms and the rules for symbolic execution. No condition. -/
namespace Rg
open Go
abbrev ci (n : Int) : Opd := .c (.t (.int .i64 n))
abbrev cb (b : Bool) : Opd := .c (.t (.bool b))
abbrev cf (f : Nat) : Opd := .c (.t (.fn f [] []))
abbrev o (d : Nat) (x : AOp) : ROp := ⟨none, some d, x⟩
abbrev on (x : AOp) : ROp := ⟨none, none, x⟩
abbrev og (g : Nat) (b : Bool) (d : Nat) (x : AOp) : ROp := ⟨some (g, b), some d, x⟩
abbrev vi (n : Int) : V := .t (.int .i64 n)
abbrev vb (b : Bool) : V := .t (.bool b)
def bs (l : List UInt8) : ByteArray := ⟨l.toArray⟩
theorem wrap64 {n : Int} (h : -9223372036854775808 ≤ n ∧ n ≤ 9223372036854775807) : IntKind.i64.wrap n = n := by
  rw [IntKind.wrap_i64]; omega
def inW : List Nat → Nat → Bool
  | [], _ => false
  | x :: l, t => if t = x then true else inW l t
def noSlot : Slot := ⟨.undef, none, none⟩
def slots : List V → Nat → Nat → Slot
  | [], _ => fun _ => noSlot
  | v :: l, i => upd (slots l (i + 1)) i ⟨v, none, none⟩
theorem slots_spec : ∀ (l : List V) (i t : Nat), slots l i (i + t) = ⟨l.getD t .undef, none, none⟩
  | [], i, t => by simp [slots, noSlot]
  | v :: l, i, 0 => by simp [slots]
  | v :: l, i, t + 1 => by
    simp only [slots]
    rw [upd_other _ _ (by omega), show i + (t + 1) = i + 1 + t by omega, slots_spec l (i + 1) t]
    simp
theorem init_eq (args : List V) (h : Nat → Option O) (n : Nat) : M.init args h n = ⟨slots args 0, fun _ => false, h, n, n⟩ := by
  simp only [M.init, initEnv, M.mk.injEq, and_true]
  funext t
  have := slots_spec args 0 t
  simpa using this.symm
section
variable (Γ : Nat → Option F) (G : Nat → List T)
/-- A condition under which code ends as asked. -/
def wpC : C → M → (Ex → M → Prop) → Prop
  | .skip, m, Q => Q .normal m
  | .ret, m, Q => Q .ret m
  | .exit id, m, Q => Q (.exit id) m
  | .region d l, m, Q => wpO Γ G d 0 l (m.begin l.length) (Q .normal)
  | .seq a b, m, Q => wpC a m (thenQ (fun m' => wpC b m' Q) Q)
  | .cond c a b, m, Q => match evBool G m.st c with
    | none => False
    | some t => if t = true then wpC a m Q else wpC b m Q
  | .block id b, m, Q => wpC b m (blockQ id Q)
  | .loop b, m, Q => WL Γ G b m Q
  | .ext _, _, _ => False
/-- A call of a function has ended as asked. -/
def Fin (rs : List Res) (r : V) (e : Ex) (m : M) : Prop := (∀ id, e ≠ .exit id) ∧ ∃ v, resAll m.st rs = some v ∧ reify m.heap v = some r
end
section
variable {Γ : Nat → Option F} {G : Nat → List T}
theorem thenQ_mono {K K' : M → Prop} {Q : Ex → M → Prop} (h : ∀ m, K m → K' m) : ∀ e m, thenQ K Q e m → thenQ K' Q e m
  | .normal, m, hk => h m hk
  | .exit _, _, hk => hk
  | .ret, _, hk => hk
theorem W_of : ∀ {c : C} {m : M} {Q : Ex → M → Prop}, wpC Γ G c m Q → W Γ G c m Q
  | .skip, m, Q, h => W_skip h
  | .ret, m, Q, h => W_ret h
  | .exit id, m, Q, h => W_exit h
  | .region d l, m, Q, h => W_region h
  | .seq a b, m, Q, h => W_seq (W_mono (W_of h) (thenQ_mono fun _ h => W_of h))
  | .cond c a b, m, Q, h => by
    simp only [wpC] at h
    split at h
    · exact h.elim
    · rename_i t ht
      refine W_cond ht (fun h1 => ?_) (fun h1 => ?_)
      · subst h1; exact W_of (by simpa using h)
      · subst h1; exact W_of (by simpa using h)
  | .block id b, m, Q, h => W_block (W_of h)
  | .loop b, m, Q, h => W_loop h
  | .ext _, _, _, h => h.elim
theorem PC_fin {g : Nat} {args : List V} {fn : F} {r : V} (hg : Γ g = some fn) (hr : fn.raw = false)
    (h : wpC Γ G fn.body ⟨slots args 0, fun _ => false, fun _ => none, 0, 0⟩ (Fin fn.results r)) : PC Γ G g args r := by
  refine PC_of hg hr ?_
  rw [init_eq]
  exact W_of h
/-- What keeps 'simp' from looking at the arms of a choice. -/
structure Wit (A B : Prop) where
  n : Nat
/-- A choice by a bool; the arms are looked at only when it is known. -/
def condS (b : Bool) (A B : Prop) (_ : Wit A B) : Prop := if b = true then A else B
@[go_sem] theorem condS_t (A B : Prop) (w : Wit A B) : condS true A B w = A := by simp [condS]
@[go_sem] theorem condS_f (A B : Prop) (w : Wit A B) : condS false A B w = B := by simp [condS]
theorem csplit {b : Bool} {A B : Prop} {w : Wit A B} (h1 : b = true → A) (h2 : b = false → B) : condS b A B w := by
  cases b
  · simpa [condS] using h2 rfl
  · simpa [condS] using h1 rfl
/-- A choice by a value. -/
def condV (v : V) (A B : Prop) (w : Wit A B) : Prop := match v with
  | .t (.bool b) => condS b A B w
  | _ => False
@[go_sem] theorem condV_b (b : Bool) (A B : Prop) (w : Wit A B) : condV (.t (.bool b)) A B w = condS b A B w := rfl
def guardV (v : V) (g : Bool) (A B : Prop) (w : Wit A B) : Prop := match v with
  | .t (.bool b) => if g = true then condS b A B w else condS b B A ⟨0⟩
  | .undef => B
  | _ => False
@[go_sem] theorem guardV_t (b : Bool) (A B : Prop) (w : Wit A B) : guardV (.t (.bool b)) true A B w = condS b A B w := by simp [guardV]
@[go_sem] theorem guardV_f (b : Bool) (A B : Prop) (w : Wit A B) : guardV (.t (.bool b)) false A B w = condS b B A ⟨0⟩ := by simp [guardV]
@[go_sem] theorem guardV_u (g : Bool) (A B : Prop) (w : Wit A B) : guardV .undef g A B w = B := rfl
/-- A goal that is left as it stands. -/
structure Wit1 (A : Prop) where
  n : Nat
def SpN (P : Prop) (_ : Wit1 P) : Prop := P
@[go_sem] theorem r_cond (sl : Nat → Slot) (u : Nat → Bool) (h : Nat → Option O) (n b t : Nat) (x y : C) (Q : Ex → M → Prop) :
    wpC Γ G (.cond (.s t) x y) ⟨sl, u, h, n, b⟩ Q = condV (sl t).v (wpC Γ G x ⟨sl, u, h, n, b⟩ Q) (wpC Γ G y ⟨sl, u, h, n, b⟩ Q) ⟨0⟩ := by
  simp only [wpC, evBool, evl, M.st, condV, condS]
  cases hv : (sl t).v <;> simp only []
  rename_i x
  cases x <;> simp only []
@[go_sem] theorem r_finR (rs : List Res) (r : V) (sl : Nat → Slot) (u : Nat → Bool) (h : Nat → Option O) (n b : Nat) :
    Fin rs r .ret ⟨sl, u, h, n, b⟩ = ∃ v, resAll (M.st ⟨sl, u, h, n, b⟩) rs = some v ∧ reify h v = some r := by simp [Fin]
attribute [go_sem] M.free hpUpd stepO evl evls evInt evBool refL fnOf rd wrapAg wr binT unT lenOf rowsOf V.cells V.scalar V.scalar1 V.scalar2 T.scalar resAll resOf reify toT1 toT T.norm eqCell eqCells fillParts evOpt V.isCell V.one
attribute [go_sem] aeval inW
@[go_sem] theorem r_wpO_cons (d : Bool) (p : Nat) (dst : Option Nat) (op : AOp) (l : List ROp) (sl : Nat → Slot) (u : Nat → Bool) (h : Nat → Option O) (n b : Nat) (Q : M → Prop) :
    wpO Γ G d p (⟨none, dst, op⟩ :: l) ⟨sl, u, h, n, b⟩ Q = stepO Γ G d p ⟨sl, u, h, n, b⟩ dst op (fun m' => wpO Γ G d (p + 1) l m' Q) := by
  simp only [wpO, wants, if_true]
@[go_sem] theorem r_wpO_consG (d : Bool) (p g : Nat) (w : Bool) (dst : Option Nat) (op : AOp) (l : List ROp) (sl : Nat → Slot) (u : Nat → Bool) (h : Nat → Option O) (n b : Nat) (Q : M → Prop) :
    wpO Γ G d p (⟨some (g, w), dst, op⟩ :: l) ⟨sl, u, h, n, b⟩ Q = guardV (sl g).v w (stepO Γ G d p ⟨sl, u, h, n, b⟩ dst op (fun m' => wpO Γ G d (p + 1) l m' Q))
      (M.free ⟨sl, u, h, n, b⟩ dst {} = true ∧ wpO Γ G d (p + 1) l (M.apply ⟨sl, u, h, n, b⟩ dst {}) Q) ⟨0⟩ := by
  simp only [wpO, wants, M.st, guardV, condS]
  cases hv : (sl g).v with
  | t x =>
    cases x with
    | bool b => cases b <;> cases w <;> simp
    | _ => rfl
  | undef => simp
  | _ => rfl
attribute [go_sem] slots List.map_cons List.map_nil Int.toNat_natCast Int.natCast_nonneg List.getElem?_map Option.map_some Option.map_none List.length_map decide_eq_true_eq Int.ofNat_lt
attribute [go_sem] Bool.not_false Bool.true_and Bool.and_true Bool.not_true Bool.false_eq_true if_true if_false true_and and_true Option.bind_eq_bind Option.bind_some Option.bind_none Option.some.injEq reduceIte reduceCtorEq
attribute [go_sem] List.length_cons List.length_nil List.mapM_cons List.mapM_nil Option.pure_def List.getElem?_cons_zero List.getElem?_cons_succ List.drop_zero List.drop_succ_cons List.take_succ_cons List.take_zero List.cons_append List.nil_append List.append_nil
end
end Rg
end
