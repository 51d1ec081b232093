/-
  What each operation does, in the words of resources and facts.
-/
import Derived.Test.YtgbhegmhbeekpaaGreatFrSt
import Derived.Laws.Rows
import Derived.Laws.Tables
import Derived.Laws.Entries
import Derived.Great.BuildSlice
import Derived.Maps.AppendAt
import Derived.WalkKit

namespace Go.Proofs.YtgbhegmhbeekpaaGreat
open Go

/-! ### 1. Types -/
def isAggD : TypeDesc → Bool
  | .struct _ => true
  | .array _ _ => true
  | _ => false

/-- Type t is (agg) a struct or an array or not, of k cells. -/
structure Ty (P : Program) (t : TypeId) (agg : Bool) (k : Nat) : Prop where
  und : ∃ d, P.underlying t = some d ∧ isAggD d = agg
  size : (P.info? t).map (·.size) = some k

def TyZ (P : Program) (t : TypeId) (z : Value) : Prop := (P.info? t).map (·.zero) = some (some z)
def TyB (P : Program) (t : TypeId) (b : Nat) : Prop := (P.info? t).map (·.bytes) = some b

structure Fld (P : Program) (s f off ty : Nat) : Prop where
  ex : ∃ fs fd, P.underlying s = some (.struct fs) ∧ fs[f]? = some fd ∧ fd.offset = off ∧ fd.type = ty ∧ ∃ k, k ≠ 0 ∧ (P.info? ty).map (·.size) = some k

section
variable {P : Program}
theorem run_typeInfo' {t : TypeId} {i : TypeInfo} (h : P.info? t = some i) (w : World) : (typeInfo t).run P w = .ok i w := by simp [typeInfo, h]
theorem Ty.run_size {t : TypeId} {a : Bool} {k : Nat} (h : Ty P t a k) (w : World) : (sizeOf t).run P w = .ok k w := by
  cases hi : P.info? t with
  | none => have := h.size; simp [hi] at this
  | some i => have hs := h.size; simp [hi] at hs; simp [sizeOf, run_typeInfo' hi, hs]
theorem Ty.run_agg {t : TypeId} {a : Bool} {k : Nat} (h : Ty P t a k) (w : World) : (isAgg t).run P w = .ok a w := by
  obtain ⟨d, hd, ha⟩ := h.und
  unfold isAgg
  rw [Sem.run_bind, run_underlying hd w]
  cases d <;> simp [isAggD] at ha <;> subst ha <;> simp
theorem TyZ.run {t : TypeId} {z : Value} (h : TyZ P t z) (w : World) : (zeroValue t).run P w = .ok z w := by
  unfold TyZ at h
  cases hi : P.info? t with
  | none => simp [hi] at h
  | some i => simp [hi] at h; simp [zeroValue, run_typeInfo' hi, h]
end

/-! ### 2. Blocks that the call owns -/
/-- Block g holds just these cells. -/
def rBlk (g : Nat) (t : TypeId) (cs : List Value) : Res where
  blks := [g]
  p w := w.heap[g]? = some (.cells cs.toArray t (0, 0))
  keep h _ hb := (hb g (List.mem_singleton.2 rfl)).trans h
  lt h b hb := by
    have := List.mem_singleton.1 hb
    subst this
    exact (Array.getElem?_eq_some_iff.1 h).1

def nth : List Value → Nat → Option Value
  | [], _ => none
  | v :: _, 0 => some v
  | _ :: r, i + 1 => nth r i
theorem nth_eq : ∀ (l : List Value) (i : Nat), nth l i = l[i]?
  | [], i => by cases i <;> rfl
  | v :: r, 0 => rfl
  | v :: r, i + 1 => by rw [nth, nth_eq r i]; simp

/-- The k cells from off on. -/
inductive SubL : List Value → Nat → Nat → List Value → Prop
  | z {r : List Value} : SubL r 0 0 []
  | s {x : Value} {r vs : List Value} {k : Nat} (h : SubL r 0 k vs) : SubL (x :: r) 0 (k + 1) (x :: vs)
  | t {x : Value} {r vs : List Value} {i k : Nat} (h : SubL r i k vs) : SubL (x :: r) (i + 1) k vs
theorem SubL.get {l vs : List Value} {off k : Nat} (h : SubL l off k vs) : vs.length = k ∧ ∀ j v, vs[j]? = some v → l[off + j]? = some v := by
  induction h with
  | z => exact ⟨rfl, fun j v h => by simp at h⟩
  | s _ ih =>
    refine ⟨by simp [ih.1], fun j v h => ?_⟩
    cases j with
    | zero => simpa using h
    | succ j => simpa using ih.2 j v (by simpa using h)
  | t _ ih =>
    rename_i i k _
    refine ⟨ih.1, fun j v h => ?_⟩
    have := ih.2 j v h
    rw [show i + 1 + j = (i + j) + 1 from by omega]
    simpa using this

/-- vs are put in from off on. -/
inductive PutL : List Value → Nat → List Value → List Value → Prop
  | z {r : List Value} : PutL r 0 [] r
  | s {x v : Value} {r vs r' : List Value} (h : PutL r 0 vs r') : PutL (x :: r) 0 (v :: vs) (v :: r')
  | t {x : Value} {r vs r' : List Value} {i : Nat} (h : PutL r i vs r') : PutL (x :: r) (i + 1) vs (x :: r')

theorem addr_add (g i j : Nat) : (⟨g, i, none⟩ : Addr).add j = ⟨g, i + j, none⟩ := by
  unfold Addr.add
  by_cases h : j = 0
  · subst h; simp
  · rw [if_neg h]

/-- Cells lie at ad, and stay. -/
def aCells (ad : Addr) (cs : List Value) : Atom where
  p M w := ad.block ∉ M ∧ ad.block < w.heap.size ∧ ∀ j v, cs[j]? = some v → w.cell? (ad.add j) = some v
  mov := by
    rintro M M' w w' ⟨h1, h2, h3⟩ k hM
    refine ⟨fun hb => ?_, Nat.lt_of_lt_of_le h2 k.size, fun j v hv => ?_⟩
    · rcases hM _ hb with h | h
      · exact h1 h
      · omega
    · have hbl : (ad.add j).block = ad.block := by unfold Addr.add; split <;> rfl
      rw [World.cell?_of_block (w := w) (by rw [hbl]; exact k.blk _ h2 h1)]
      exact h3 j v hv

/-! ### 3. Elements -/
structure Rep (α : Type) where
  k : Nat
  p : List Nat → World → α → List Value → Prop
  mov : ∀ {M M' : List Nat} {w w' : World} {x : α} {cs : List Value}, p M w x cs → Kept M w w' → (∀ b ∈ M', b ∈ M ∨ w.heap.size ≤ b) → p M' w' x cs
  len : ∀ {M : List Nat} {w : World} {x : α} {cs : List Value}, p M w x cs → cs.length = k
  one : ∀ {M : List Nat} {w : World} {x : α} {cs : List Value}, p M w x cs → ∀ v ∈ cs, v.oneCell' = true

/-- The slice value '.slice a n c' reads as xs. -/
def SlP {α : Type} (R : Rep α) (M : List Nat) (w : World) (xs : List α) (a : Option Addr) (n c : Nat) : Prop :=
  n = xs.length ∧ n ≤ c ∧ c ≤ maxLen ∧ (a = none → c = 0) ∧
    (∀ ad, a = some ad → 0 < n → ad.block ∉ M ∧ ad.block < w.heap.size ∧ ∀ i (h : i < xs.length), ∃ cs, R.p M w xs[i] cs ∧ ∀ j v, cs[j]? = some v → w.cell? (ad.add (i * R.k + j)) = some v)

theorem add_block (a : Addr) (n : Nat) : (a.add n).block = a.block := by unfold Addr.add; split <;> rfl
theorem add_add' (a : Addr) (i j : Nat) : (a.add i).add j = a.add (i + j) := by
  unfold Addr.add
  by_cases hi : i = 0 <;> by_cases hj : j = 0 <;> simp [hi, hj, Nat.add_assoc]

theorem SlP.mov {α : Type} {R : Rep α} {M M' : List Nat} {w w' : World} {xs : List α} {a : Option Addr} {n c : Nat} (h : SlP R M w xs a n c) (k : Kept M w w') (hM : ∀ b ∈ M', b ∈ M ∨ w.heap.size ≤ b) : SlP R M' w' xs a n c := by
  obtain ⟨h1, h2, h3, h4, h5⟩ := h
  refine ⟨h1, h2, h3, h4, fun ad ha hn => ?_⟩
  obtain ⟨h6, h7, h8⟩ := h5 ad ha hn
  refine ⟨fun hb => ?_, Nat.lt_of_lt_of_le h7 k.size, fun i hi => ?_⟩
  · rcases hM _ hb with h | h
    · exact h6 h
    · omega
  · obtain ⟨cs, h9, h10⟩ := h8 i hi
    refine ⟨cs, R.mov h9 k hM, fun j v hv => ?_⟩
    rw [World.cell?_of_block (w := w) (by rw [add_block]; exact k.blk _ h7 h6)]
    exact h10 j v hv

def aSl {α : Type} (R : Rep α) (xs : List α) (a : Option Addr) (n c : Nat) : Atom := ⟨fun M w => SlP R M w xs a n c, SlP.mov⟩
def aEl {α : Type} (R : Rep α) (x : α) (cs : List Value) : Atom := ⟨fun M w => R.p M w x cs, R.mov⟩

def rInt (k : IntKind) : Rep Int where
  k := 1
  p _ _ x cs := cs = [.int k x]
  mov h _ _ := h
  len h := by rw [h]; rfl
  one h v hv := by rw [h] at hv; have := List.mem_singleton.1 hv; subst this; rfl

def rStr : Rep ByteArray where
  k := 1
  p _ _ x cs := cs = [.string x]
  mov h _ _ := h
  len h := by rw [h]; rfl
  one h v hv := by rw [h] at hv; have := List.mem_singleton.1 hv; subst this; rfl

def rBool : Rep Bool where
  k := 1
  p _ _ x cs := cs = [.bool x]
  mov h _ _ := h
  len h := by rw [h]; rfl
  one h v hv := by rw [h] at hv; have := List.mem_singleton.1 hv; subst this; rfl

def rSl {α : Type} (R : Rep α) : Rep (List α) where
  k := 1
  p M w xs cs := ∃ a n c, cs = [.slice a n c] ∧ SlP R M w xs a n c
  mov h k hM := let ⟨a, n, c, h1, h2⟩ := h; ⟨a, n, c, h1, h2.mov k hM⟩
  len h := by obtain ⟨a, n, c, h, _⟩ := h; rw [h]; rfl
  one h v hv := by obtain ⟨a, n, c, h, _⟩ := h; rw [h] at hv; have := List.mem_singleton.1 hv; subst this; rfl

def rCat {α β : Type} (R : Rep α) (S : Rep β) : Rep (α × β) where
  k := R.k + S.k
  p M w x cs := ∃ cs1 cs2, cs = cs1 ++ cs2 ∧ R.p M w x.1 cs1 ∧ S.p M w x.2 cs2
  mov h k hM := let ⟨a, b, h1, h2, h3⟩ := h; ⟨a, b, h1, R.mov h2 k hM, S.mov h3 k hM⟩
  len h := by obtain ⟨a, b, h1, h2, h3⟩ := h; rw [h1, List.length_append, R.len h2, S.len h3]
  one h v hv := by
    obtain ⟨a, b, h1, h2, h3⟩ := h
    rw [h1] at hv
    rcases List.mem_append.1 hv with hv | hv
    · exact R.one h2 v hv
    · exact S.one h3 v hv

def rVia {α β : Type} (f : β → α) (R : Rep α) : Rep β where
  k := R.k
  p M w x cs := R.p M w (f x) cs
  mov h k hM := R.mov h k hM
  len h := R.len h
  one h := R.one h

theorem SlP.nil {α : Type} (R : Rep α) (M : List Nat) (w : World) : SlP R M w [] none 0 0 := ⟨rfl, Nat.le_refl _, by simp [maxLen], fun _ => rfl, fun _ h => by cases h⟩

theorem SlP.int {k : IntKind} {M : List Nat} {w : World} {xs : List Int} {a : Option Addr} {n c : Nat} (h : SlP (rInt k) M w xs a n c) {i : Nat} (hi : i < n) : ∃ ad, a = some ad ∧ w.cell? (ad.add i) = some (.int k (xs.getD i 0)) := by
  obtain ⟨h1, h2, h3, h4, h5⟩ := h
  cases a with
  | none => have := h4 rfl; omega
  | some ad =>
    obtain ⟨h6, h7, h8⟩ := h5 ad rfl (by omega)
    obtain ⟨cs, h9, h10⟩ := h8 i (by omega)
    have hk : (rInt k).k = 1 := rfl
    have := h10 0 (.int k xs[i]) (by rw [show cs = [.int k xs[i]] from h9]; rfl)
    rw [hk] at this
    refine ⟨ad, rfl, ?_⟩
    simpa [List.getD_eq_getElem?_getD, List.getElem?_eq_getElem (show i < xs.length by omega)] using this

/-- The place of element i, of k cells each. -/
def ea (a : Option Addr) (i k : Nat) : Option Addr := a.map (·.add (i * k))
theorem ea_some (ad : Addr) (i k : Nat) : ea (some ad) i k = some (ad.add (i * k)) := rfl

theorem SlP.some_ {α : Type} {R : Rep α} {M : List Nat} {w : World} {xs : List α} {a : Option Addr} {n c i : Nat} (h : SlP R M w xs a n c) (hi : i < n) : ∃ ad, a = some ad := by
  obtain ⟨h1, h2, h3, h4, h5⟩ := h
  cases a with
  | none => have := h4 rfl; omega
  | some ad => exact ⟨ad, rfl⟩

theorem SlP.el {α : Type} {R : Rep α} {M : List Nat} {w : World} {xs : List α} {a : Option Addr} {n c i : Nat} (h : SlP R M w xs a n c) (hi : i < n) (hx : i < xs.length) :
    ∃ ad cs, ea a i R.k = some ad ∧ (aCells ad cs).p M w ∧ R.p M w xs[i] cs := by
  obtain ⟨ad, rfl⟩ := h.some_ hi
  obtain ⟨h1, h2, h3, h4, h5⟩ := h
  obtain ⟨h6, h7, h8⟩ := h5 ad rfl (by omega)
  obtain ⟨cs, h9, h10⟩ := h8 i hx
  refine ⟨ad.add (i * R.k), cs, rfl, ⟨by rw [add_block]; exact h6, by rw [add_block]; exact h7, fun j v hv => ?_⟩, h9⟩
  rw [add_add']
  exact h10 j v hv

theorem SlP.take {α : Type} {R : Rep α} {M : List Nat} {w : World} {xs : List α} {a : Option Addr} {n c j : Nat} (h : SlP R M w xs a n c) (hj : j ≤ n) : SlP R M w (xs.take j) a j c := by
  obtain ⟨h1, h2, h3, h4, h5⟩ := h
  refine ⟨by simp; omega, by omega, h3, h4, fun ad ha h0 => ?_⟩
  obtain ⟨h6, h7, h8⟩ := h5 ad ha (by omega)
  refine ⟨h6, h7, fun i hi => ?_⟩
  simp only [List.length_take] at hi
  rw [List.getElem_take]
  exact h8 i (by omega)

def vals (l : LEnv) : List Operand → Option (List Value)
  | [] => some []
  | x :: xs => match opv l x with
    | some v => match vals l xs with
      | some vs => some (v :: vs)
      | none => none
    | none => none
theorem vals_map {l : LEnv} {ρ : Operand → Value} (hρ : Agr ρ l) : ∀ {xs : List Operand} {us : List Value}, vals l xs = some us → xs.map ρ = us
  | [], us, h => by simp [vals] at h; simp [h]
  | x :: xs, us, h => by
    unfold vals at h
    cases hv : opv l x with
    | none => rw [hv] at h; cases h
    | some v =>
      rw [hv] at h
      cases hs : vals l xs with
      | none => rw [hs] at h; cases h
      | some vs =>
        rw [hs] at h
        injection h with h
        rw [List.map_cons, vals_map hρ hs, hρ x v hv, h]

/-! ### 4. Operations that only look -/
section
variable {P : Program} {l : LEnv} {S : World → Prop} {o : Oper} {x y : Operand} {X : Value}

theorem q_mov (ho : o.op = .move x) (hx : opv l x = some X) : Qu P o l S X := by
  intro w _ ρ hρ
  simp [execOp, ho, hρ x X hx, upE]
theorem q_asg (ho : o.op = .assign x) (hx : opv l x = some X) : Qu P o l S X := by
  intro w _ ρ hρ
  simp [execOp, ho, hρ x X hx, upE]
theorem q_ext {vs : Array Value} {i : Nat} (ho : o.op = .extract x i) (hx : opv l x = some (.tuple vs)) (hi : nth vs.toList i = some X) : Qu P o l S X := by
  intro w _ ρ hρ
  rw [nth_eq] at hi
  have hi' : vs[i]? = some X := by simpa using hi
  simp [execOp, ho, hρ x _ hx, upE, Instr.extract, hi']
theorem q_nil {a : Addr} (ho : o.op = .nilCheck x) (hx : opv l x = some (.pointer (some a))) : Qu P o l S (.pointer (some a)) := by
  intro w _ ρ hρ
  simp [execOp, ho, hρ x _ hx, upE]
theorem q_not {T : TypeId} {b : Bool} (ho : o.op = .unOp .not T x) (hx : opv l x = some (.bool b)) : Qu P o l S (.bool !b) := by
  intro w _ ρ hρ
  simp [execOp, ho, hρ x _ hx, upE, Op.unary]
theorem q_neg {T : TypeId} {k : IntKind} {n : Int} (ho : o.op = .unOp .neg T x) (hx : opv l x = some (.int k n)) : Qu P o l S (.int k (k.wrap (-n))) := by
  intro w _ ρ hρ
  simp [execOp, ho, hρ x _ hx, upE, Op.unary, Op.intArith]
theorem q_pickT {c a b : Operand} (ho : o.op = .pick c a b) (hc : opv l c = some (.bool true)) (ha : opv l a = some X) : Qu P o l S X := by
  intro w _ ρ hρ
  simp [execOp, ho, hρ c _ hc, hρ a _ ha, upE, asBool]
theorem q_pickF {c a b : Operand} (ho : o.op = .pick c a b) (hc : opv l c = some (.bool false)) (hb : opv l b = some X) : Qu P o l S X := by
  intro w _ ρ hρ
  simp [execOp, ho, hρ c _ hc, hρ b _ hb, upE, asBool]
theorem q_pick {c a b : Operand} {t : Bool} {u v : Value} (ho : o.op = .pick c a b) (hc : opv l c = some (.bool t)) (ha : opv l a = some u) (hb : opv l b = some v) : Qu P o l S (bif t then u else v) := by
  intro w _ ρ hρ
  cases t <;> simp [execOp, ho, hρ c _ hc, hρ a _ ha, hρ b _ hb, upE, asBool]

theorem wrap_i64 {n : Int} (h : -9223372036854775808 ≤ n ∧ n ≤ 9223372036854775807) : IntKind.i64.wrap n = n := by
  have := IntWalk.i64_in n h
  exact this

theorem q_add {T T' : TypeId} {k : IntKind} {a b : Int} (ho : o.op = .binOp .add T x y T') (hx : opv l x = some (.int k a)) (hy : opv l y = some (.int k b)) : Qu P o l S (.int k (k.wrap (a + b))) := by
  intro w _ ρ hρ
  simp [execOp, ho, hρ x _ hx, hρ y _ hy, upE, go_sem, Op.intArith]
theorem q_sub {T T' : TypeId} {k : IntKind} {a b : Int} (ho : o.op = .binOp .sub T x y T') (hx : opv l x = some (.int k a)) (hy : opv l y = some (.int k b)) : Qu P o l S (.int k (k.wrap (a - b))) := by
  intro w _ ρ hρ
  simp [execOp, ho, hρ x _ hx, hρ y _ hy, upE, go_sem, Op.intArith]
theorem q_mul {T T' : TypeId} {k : IntKind} {a b : Int} (ho : o.op = .binOp .mul T x y T') (hx : opv l x = some (.int k a)) (hy : opv l y = some (.int k b)) : Qu P o l S (.int k (k.wrap (a * b))) := by
  intro w _ ρ hρ
  simp [execOp, ho, hρ x _ hx, hρ y _ hy, upE, go_sem, Op.intArith]
theorem q_addI {T T' : TypeId} {a b : Int} (ho : o.op = .binOp .add T x y T') (hx : opv l x = some (.int .i64 a)) (hy : opv l y = some (.int .i64 b)) (h : -9223372036854775808 ≤ a + b ∧ a + b ≤ 9223372036854775807) : Qu P o l S (.int .i64 (a + b)) := by
  have := q_add (P := P) (S := S) ho hx hy
  rwa [wrap_i64 h] at this
theorem q_subI {T T' : TypeId} {a b : Int} (ho : o.op = .binOp .sub T x y T') (hx : opv l x = some (.int .i64 a)) (hy : opv l y = some (.int .i64 b)) (h : -9223372036854775808 ≤ a - b ∧ a - b ≤ 9223372036854775807) : Qu P o l S (.int .i64 (a - b)) := by
  have := q_sub (P := P) (S := S) ho hx hy
  rwa [wrap_i64 h] at this
theorem q_mulI {T T' : TypeId} {a b : Int} (ho : o.op = .binOp .mul T x y T') (hx : opv l x = some (.int .i64 a)) (hy : opv l y = some (.int .i64 b)) (h : -9223372036854775808 ≤ a * b ∧ a * b ≤ 9223372036854775807) : Qu P o l S (.int .i64 (a * b)) := by
  have := q_mul (P := P) (S := S) ho hx hy
  rwa [wrap_i64 h] at this
theorem q_addE {T T' : TypeId} {a b : Int} (z : Int) (ho : o.op = .binOp .add T x y T') (hx : opv l x = some (.int .i64 a)) (hy : opv l y = some (.int .i64 b)) (hz : a + b = z) (h : -9223372036854775808 ≤ z ∧ z ≤ 9223372036854775807) : Qu P o l S (.int .i64 z) := by
  subst hz; exact q_addI ho hx hy h
theorem q_subE {T T' : TypeId} {a b : Int} (z : Int) (ho : o.op = .binOp .sub T x y T') (hx : opv l x = some (.int .i64 a)) (hy : opv l y = some (.int .i64 b)) (hz : a - b = z) (h : -9223372036854775808 ≤ z ∧ z ≤ 9223372036854775807) : Qu P o l S (.int .i64 z) := by
  subst hz; exact q_subI ho hx hy h
theorem q_mulE {T T' : TypeId} {a b : Int} (z : Int) (ho : o.op = .binOp .mul T x y T') (hx : opv l x = some (.int .i64 a)) (hy : opv l y = some (.int .i64 b)) (hz : a * b = z) (h : -9223372036854775808 ≤ z ∧ z ≤ 9223372036854775807) : Qu P o l S (.int .i64 z) := by
  subst hz; exact q_mulI ho hx hy h
theorem q_quo {T T' : TypeId} {k : IntKind} {a b : Int} (ho : o.op = .binOp .quo T x y T') (hx : opv l x = some (.int k a)) (hy : opv l y = some (.int k b)) (hb : b ≠ 0) : Qu P o l S (.int k (k.wrap (a.tdiv b))) := by
  intro w _ ρ hρ
  simp [execOp, ho, hρ x _ hx, hρ y _ hy, upE, go_sem, Op.intDiv, hb]
theorem q_rem {T T' : TypeId} {k : IntKind} {a b : Int} (ho : o.op = .binOp .rem T x y T') (hx : opv l x = some (.int k a)) (hy : opv l y = some (.int k b)) (hb : b ≠ 0) : Qu P o l S (.int k (a.tmod b)) := by
  intro w _ ρ hρ
  simp [execOp, ho, hρ x _ hx, hρ y _ hy, upE, go_sem, Op.intDiv, hb]
theorem q_eq {T T' : TypeId} {k : IntKind} {a b : Int} (ho : o.op = .binOp .eql T x y T') (hx : opv l x = some (.int k a)) (hy : opv l y = some (.int k b)) : Qu P o l S (.bool (decide (a = b))) := by
  intro w _ ρ hρ
  simp [execOp, ho, hρ x _ hx, hρ y _ hy, upE, go_sem]
  exact Bool.eq_iff_iff.2 (by simp)
theorem q_ne {T T' : TypeId} {k : IntKind} {a b : Int} (ho : o.op = .binOp .neq T x y T') (hx : opv l x = some (.int k a)) (hy : opv l y = some (.int k b)) : Qu P o l S (.bool (decide (a ≠ b))) := by
  intro w _ ρ hρ
  simp [execOp, ho, hρ x _ hx, hρ y _ hy, upE, go_sem]
  exact Bool.eq_iff_iff.2 (by simp)
theorem q_lt {T T' : TypeId} {k : IntKind} {a b : Int} (ho : o.op = .binOp .lss T x y T') (hx : opv l x = some (.int k a)) (hy : opv l y = some (.int k b)) : Qu P o l S (.bool (decide (a < b))) := by
  intro w _ ρ hρ
  simp [execOp, ho, hρ x _ hx, hρ y _ hy, upE, go_sem]
theorem q_le {T T' : TypeId} {k : IntKind} {a b : Int} (ho : o.op = .binOp .leq T x y T') (hx : opv l x = some (.int k a)) (hy : opv l y = some (.int k b)) : Qu P o l S (.bool (decide (a ≤ b))) := by
  intro w _ ρ hρ
  simp [execOp, ho, hρ x _ hx, hρ y _ hy, upE, go_sem]
theorem q_gt {T T' : TypeId} {k : IntKind} {a b : Int} (ho : o.op = .binOp .gtr T x y T') (hx : opv l x = some (.int k a)) (hy : opv l y = some (.int k b)) : Qu P o l S (.bool (decide (b < a))) := by
  intro w _ ρ hρ
  simp [execOp, ho, hρ x _ hx, hρ y _ hy, upE, go_sem]
theorem q_ge {T T' : TypeId} {k : IntKind} {a b : Int} (ho : o.op = .binOp .geq T x y T') (hx : opv l x = some (.int k a)) (hy : opv l y = some (.int k b)) : Qu P o l S (.bool (decide (b ≤ a))) := by
  intro w _ ρ hρ
  simp [execOp, ho, hρ x _ hx, hρ y _ hy, upE, go_sem]

theorem q_fa {s f off ty g i : Nat} (ho : o.op = .fieldAddr s x f) (hf : Fld P s f off ty) (hx : opv l x = some (.pointer (some ⟨g, i, none⟩))) : Qu P o l S (.pointer (some ⟨g, i + off, none⟩)) := by
  intro w _ ρ hρ
  obtain ⟨fs, fd, h1, h2, h3, h4, k, h5, h6⟩ := hf.ex
  subst h3; subst h4
  have hz : (sizeOf fd.type).run P w = .ok k w := by
    cases hi : P.info? fd.type with
    | none => simp [hi] at h6
    | some j => simp [hi] at h6; simp [sizeOf, run_typeInfo' hi, h6]
  simp [execOp, ho, hρ x _ hx, upE, Instr.fieldAt, run_underlying h1, h2, Instr.sureAddr, fieldPlace, hz, h5, addr_add]
theorem q_faR {s f off ty : Nat} {ad : Addr} (ho : o.op = .fieldAddr s x f) (hf : Fld P s f off ty) (hx : opv l x = some (.pointer (some ad))) : Qu P o l S (.pointer (some (ad.add off))) := by
  intro w _ ρ hρ
  obtain ⟨fs, fd, h1, h2, h3, h4, k, h5, h6⟩ := hf.ex
  subst h3; subst h4
  have hz : (sizeOf fd.type).run P w = .ok k w := by
    cases hi : P.info? fd.type with
    | none => simp [hi] at h6
    | some j => simp [hi] at h6; simp [sizeOf, run_typeInfo' hi, h6]
  simp [execOp, ho, hρ x _ hx, upE, Instr.fieldAt, run_underlying h1, h2, Instr.sureAddr, fieldPlace, hz, h5]

theorem q_len {t : TypeId} {e : TypeId} {a : Option Addr} {n c : Nat} (ho : o.op = .call { callee := .builtin .len, args := #[x], argTypes := #[t] }) (ht : P.underlying t = some (.slice e)) (hx : opv l x = some (.slice a n c)) : Qu P o l S (.int .i64 n) := by
  intro w _ ρ hρ
  simp [execOp, ho, hρ x _ hx, upE, resolve, invoke, builtin, Builtin.len_, run_underlying ht, goInt]
theorem q_lenS {t : TypeId} {s : ByteArray} (ho : o.op = .call { callee := .builtin .len, args := #[x], argTypes := #[t] }) (ht : P.underlying t = some .string) (hx : opv l x = some (.string s)) : Qu P o l S (.int .i64 s.size) := by
  intro w _ ρ hρ
  simp [execOp, ho, hρ x _ hx, upE, resolve, invoke, builtin, Builtin.len_, run_underlying ht, goInt]

/-- The place of an element. -/
theorem q_ia {t e : TypeId} {a : Option Addr} {n c k : Nat} {ag : Bool} {j : IntKind} {i : Int} {ad : Addr} (ho : o.op = .indexAddr t x y) (ht : P.underlying t = some (.slice e)) (hk : Ty P e ag k) (hx : opv l x = some (.slice a n c)) (hy : opv l y = some (.int j i))
    (h0 : 0 ≤ i) (h1 : i < n) (ha : ea a i.toNat k = some ad) : Qu P o l S (.pointer (some ad)) := by
  intro w _ ρ hρ
  cases a with
  | none => cases ha
  | some a =>
    have : a.add (i.toNat * k) = ad := by simpa [ea] using ha
    simp [execOp, ho, hρ x _ hx, hρ y _ hy, upE, Instr.indexAt, asIntOf, run_underlying ht, h0, h1, hk.run_size, this]
theorem q_iaO {t e : TypeId} {g m n c k : Nat} {ag : Bool} {j : IntKind} {i : Int} (ho : o.op = .indexAddr t x y) (ht : P.underlying t = some (.slice e)) (hk : Ty P e ag k) (hx : opv l x = some (.slice (some ⟨g, m, none⟩) n c)) (hy : opv l y = some (.int j i))
    (h0 : 0 ≤ i) (h1 : i < n) : Qu P o l S (.pointer (some ⟨g, m + i.toNat * k, none⟩)) := by
  intro w _ ρ hρ
  simp [execOp, ho, hρ x _ hx, hρ y _ hy, upE, Instr.indexAt, asIntOf, run_underlying ht, h0, h1, hk.run_size, addr_add]

theorem q_mkf {fn : Fn} {first captured : Array Operand} {fs cs : List Value} (ho : o.op = .makeFunc fn first captured) (h1 : vals l first.toList = some fs) (h2 : vals l captured.toList = some cs) : Qu P o l S (.func fn fs.toArray cs.toArray) := by
  intro w _ ρ hρ
  have e1 : first.map ρ = fs.toArray := by rw [← vals_map hρ h1, ← Array.toList_map, Array.toArray_toList]
  have e2 : captured.map ρ = cs.toArray := by rw [← vals_map hρ h2, ← Array.toList_map, Array.toArray_toList]
  simp [execOp, ho, upE, Instr.makeFunc, e1, e2]

/-- where a slice begins that is cut at i, of elements of k cells -/
def sa (a : Option Addr) (c i k : Nat) : Option Addr := if c = i then a else a.map (·.add (i * k))
theorem q_slL {t e : TypeId} {a : Option Addr} {n c i k : Nat} {ag : Bool} {j : IntKind} (ho : o.op = .slice t x (some y) none none) (ht : P.underlying t = some (.slice e)) (hk : Ty P e ag k) (hx : opv l x = some (.slice a n c)) (hy : opv l y = some (.int j (i : Int))) (hi : i ≤ n) :
    Qu P o l S (.slice (sa a c i k) (n - i) (c - i)) := by
  intro w _ ρ hρ
  have h1 : (Instr.sliceBound (.int j (i : Int)) n .sliceB).run P w = .ok i w := by rw [run_sliceBound w _ _ _ _ (by omega) (by omega)]; simp
  simp [execOp, ho, hρ x _ hx, hρ y _ hy, upE, Instr.sliceAt, Instr.slice, Instr.sliceBounds, run_underlying ht, h1, hk.run_size, sa]
theorem q_slH {t e : TypeId} {a : Option Addr} {n c i k : Nat} {ag : Bool} {j : IntKind} (ho : o.op = .slice t x none (some y) none) (ht : P.underlying t = some (.slice e)) (hk : Ty P e ag k) (hx : opv l x = some (.slice a n c)) (hy : opv l y = some (.int j (i : Int))) (hi : i ≤ c) :
    Qu P o l S (.slice a i c) := by
  intro w _ ρ hρ
  have h1 : (Instr.sliceBound (.int j (i : Int)) c .sliceAcap).run P w = .ok i w := by rw [run_sliceBound w _ _ _ _ (by omega) (by omega)]; simp
  have h2 : (a.map (·.add 0)) = a := by cases a <;> rfl
  by_cases hc : c = 0
  · subst hc
    simp [execOp, ho, hρ x _ hx, hρ y _ hy, upE, Instr.sliceAt, Instr.slice, Instr.sliceBounds, run_underlying ht, h1, hk.run_size]
  · simp [execOp, ho, hρ x _ hx, hρ y _ hy, upE, Instr.sliceAt, Instr.slice, Instr.sliceBounds, run_underlying ht, h1, hk.run_size, h2]
theorem q_slLH {t e : TypeId} {a : Option Addr} {n c i h k : Nat} {z : Operand} {ag : Bool} {j j' : IntKind} (ho : o.op = .slice t x (some y) (some z) none) (ht : P.underlying t = some (.slice e)) (hk : Ty P e ag k) (hx : opv l x = some (.slice a n c)) (hy : opv l y = some (.int j (i : Int))) (hz : opv l z = some (.int j' (h : Int))) (hi : i ≤ h) (hh : h ≤ c) :
    Qu P o l S (.slice (sa a c i k) (h - i) (c - i)) := by
  intro w _ ρ hρ
  have h1 : (Instr.sliceBound (.int j (i : Int)) h .sliceB).run P w = .ok i w := by rw [run_sliceBound w _ _ _ _ (by omega) (by omega)]; simp
  have h2 : (Instr.sliceBound (.int j' (h : Int)) c .sliceAcap).run P w = .ok h w := by rw [run_sliceBound w _ _ _ _ (by omega) (by omega)]; simp
  simp [execOp, ho, hρ x _ hx, hρ y _ hy, hρ z _ hz, upE, Instr.sliceAt, Instr.slice, Instr.sliceBounds, run_underlying ht, h1, h2, hk.run_size, sa]
end

theorem SlP.drop {α : Type} {R : Rep α} {M : List Nat} {w : World} {xs : List α} {a : Option Addr} {n c i : Nat} (h : SlP R M w xs a n c) (hi : i ≤ n) : SlP R M w (xs.drop i) (sa a c i R.k) (n - i) (c - i) := by
  obtain ⟨h1, h2, h3, h4, h5⟩ := h
  refine ⟨by simp; omega, by omega, by omega, fun ha => ?_, fun ad ha h0 => ?_⟩
  · unfold sa at ha
    split at ha
    · omega
    · have := h4 (by simpa using ha); omega
  · unfold sa at ha
    rw [if_neg (by omega)] at ha
    cases a with
    | none => cases ha
    | some b =>
      have hb : b.add (i * R.k) = ad := by simpa using ha
      subst hb
      obtain ⟨h6, h7, h8⟩ := h5 b rfl (by omega)
      refine ⟨by rw [add_block]; exact h6, by rw [add_block]; exact h7, fun j hj => ?_⟩
      simp only [List.length_drop] at hj
      obtain ⟨cs, h9, h10⟩ := h8 (i + j) (by omega)
      refine ⟨cs, by simpa using h9, fun m v hv => ?_⟩
      have := h10 m v hv
      rw [add_add']
      rwa [Nat.add_mul, Nat.add_assoc] at this

/-! ### 5. Loads and stores -/
section
variable {P : Program} {l : LEnv} {C : Ctx} {own own' : List Res} {ats : List Atom} {o : Oper} {x y : Operand} {X : Value}

theorem cell_blk {w : World} {g off : Nat} {t : TypeId} {cs : List Value} {v : Value} (h : (rBlk g t cs).p w) (hv : cs[off]? = some v) : w.cell? ⟨g, off, none⟩ = some v := by
  rw [cell_of_row w g off cs.toArray t (0, 0) h]
  simpa using hv

theorem q_ld {t T g off : Nat} {cs : List Value} {rest : List Res} (ho : o.op = .load t x) (ht : Ty P t false 1) (hx : opv l x = some (.pointer (some ⟨g, off, none⟩))) (hs : Sel own (rBlk g T cs) rest) (hv : nth cs off = some X) : Qu P o l (St C own ats) X := by
  intro w hw ρ hρ
  rw [nth_eq] at hv
  have hc := cell_blk (hw.res hs) hv
  simp [execOp, ho, hρ x _ hx, upE, Instr.loadAt, Instr.sureAddr, loadVar, ht.run_agg, hc]

theorem Sel.single {l l' : List Res} {r : Res} (h : Sel l r l') : [r].Sublist l := by
  induction h with
  | head => exact (List.nil_sublist _).cons_cons _
  | tail _ ih => exact ih.cons _

theorem run_loadCells_at {w : World} {ad : Addr} {vs : List Value} (h : ∀ j v, vs[j]? = some v → w.cell? (ad.add j) = some v) : (loadCells ad vs.length).run P w = .ok vs.toArray w :=
  run_loadCells_list (P := P) w ad vs h

theorem q_ldA {t T g off k : Nat} {cs vs : List Value} {rest : List Res} (ho : o.op = .load t x) (ht : Ty P t true k) (hx : opv l x = some (.pointer (some ⟨g, off, none⟩))) (hs : Sel own (rBlk g T cs) rest) (hv : SubL cs off k vs) : Qu P o l (St C own ats) (.agg vs.toArray) := by
  intro w hw ρ hρ
  obtain ⟨hl, hg⟩ := hv.get
  subst hl
  have hc := run_loadCells_at (P := P) (w := w) (ad := ⟨g, off, none⟩) (vs := vs) (fun j v hv => by rw [addr_add]; exact cell_blk (hw.res hs) (hg j v hv))
  simp [execOp, ho, hρ x _ hx, upE, Instr.loadAt, Instr.sureAddr, loadVar, ht.run_agg, ht.run_size, hc]

/-- in a drawn region: only that block is needed -/
theorem W_ld {ops : Array Oper} {p : Plan} {N : World → Prop} {K : LEnv → World → Prop} {i d t T g off : Nat} {cs : List Value} {rest : List Res} (hi : ops[i]? = some o) (ho : o.op = .load t x) (ht : Ty P t false 1) (hx : opv l x = some (.pointer (some ⟨g, off, none⟩))) (hs : Sel own (rBlk g T cs) rest) (hv : nth cs off = some X)
    (hg : wantd ops o l = some true) (hd : o.dst = some d) (hr : Wd P ops p ((d, X) :: l) (St C own ats) (fun w => N w ∧ St C [rBlk g T cs] ats w) K) : Wd P ops (.quiet i p) l (St C own ats) N K := fun hN =>
  have f : ∀ w, St C own ats w → N w ∧ St C [rBlk g T cs] ats w := fun w h => ⟨hN w h, h.weak hs.single fun _ hA => hA⟩
  ⟨o, hi, X, fun w => N w ∧ St C [rBlk g T cs] ats w, f, fun _ h => h.1, fun w hw => stepL_of hg (q_ld ho ht hx Sel.head hv w hw.2), by rw [hd]; exact hr f⟩
theorem W_ldA {ops : Array Oper} {p : Plan} {N : World → Prop} {K : LEnv → World → Prop} {i d t T g off k : Nat} {cs vs : List Value} {rest : List Res} (hi : ops[i]? = some o) (ho : o.op = .load t x) (ht : Ty P t true k) (hx : opv l x = some (.pointer (some ⟨g, off, none⟩))) (hs : Sel own (rBlk g T cs) rest) (hv : SubL cs off k vs)
    (hg : wantd ops o l = some true) (hd : o.dst = some d) (hr : Wd P ops p ((d, .agg vs.toArray) :: l) (St C own ats) (fun w => N w ∧ St C [rBlk g T cs] ats w) K) : Wd P ops (.quiet i p) l (St C own ats) N K := fun hN =>
  have f : ∀ w, St C own ats w → N w ∧ St C [rBlk g T cs] ats w := fun w h => ⟨hN w h, h.weak hs.single fun _ hA => hA⟩
  ⟨o, hi, _, fun w => N w ∧ St C [rBlk g T cs] ats w, f, fun _ h => h.1, fun w hw => stepL_of hg (q_ldA ho ht hx Sel.head hv w hw.2), by rw [hd]; exact hr f⟩

/-- out of memory that stays -/
theorem q_ldR {t off : Nat} {ad : Addr} {cs : List Value} (ho : o.op = .load t x) (ht : Ty P t false 1) (hx : opv l x = some (.pointer (some (ad.add off)))) (hs : In (aCells ad cs) ats) (hv : nth cs off = some X) : Qu P o l (St C own ats) X := by
  intro w hw ρ hρ
  rw [nth_eq] at hv
  have hc := (hw.atom hs).2.2 off X hv
  simp [execOp, ho, hρ x _ hx, upE, Instr.loadAt, Instr.sureAddr, loadVar, ht.run_agg, hc]
theorem q_ldR0 {t : Nat} {ad : Addr} {r : List Value} (ho : o.op = .load t x) (ht : Ty P t false 1) (hx : opv l x = some (.pointer (some ad))) (hs : In (aCells ad (X :: r)) ats) : Qu P o l (St C own ats) X := by
  intro w hw ρ hρ
  have hc := (hw.atom hs).2.2 0 X rfl
  have : ad.add 0 = ad := rfl
  rw [this] at hc
  simp [execOp, ho, hρ x _ hx, upE, Instr.loadAt, Instr.sureAddr, loadVar, ht.run_agg, hc]
theorem q_ldRA {t k : Nat} {ad : Addr} {cs : List Value} (ho : o.op = .load t x) (ht : Ty P t true k) (hk : cs.length = k) (hx : opv l x = some (.pointer (some ad))) (hs : In (aCells ad cs) ats) : Qu P o l (St C own ats) (.agg cs.toArray) := by
  intro w hw ρ hρ
  have hc := run_loadCells_at (P := P) (w := w) (ad := ad) (vs := cs) (hw.atom hs).2.2
  rw [hk] at hc
  simp [execOp, ho, hρ x _ hx, upE, Instr.loadAt, Instr.sureAddr, loadVar, ht.run_agg, ht.run_size, hc]
theorem q_ldRS {t off k : Nat} {ad : Addr} {cs vs : List Value} (ho : o.op = .load t x) (ht : Ty P t true k) (hx : opv l x = some (.pointer (some (ad.add off)))) (hs : In (aCells ad cs) ats) (hv : SubL cs off k vs) : Qu P o l (St C own ats) (.agg vs.toArray) := by
  intro w hw ρ hρ
  obtain ⟨hl, hg⟩ := hv.get
  subst hl
  have hc := run_loadCells_at (P := P) (w := w) (ad := ad.add off) (vs := vs) (fun j v hv => by rw [add_add']; exact (hw.atom hs).2.2 _ v (hg j v hv))
  simp [execOp, ho, hρ x _ hx, upE, Instr.loadAt, Instr.sureAddr, loadVar, ht.run_agg, ht.run_size, hc]
/-- the place of an element of a slice that stays, at a counter -/
theorem q_iaN {α : Type} {R : Rep α} {xs : List α} {t e : TypeId} {a : Option Addr} {n c k i : Nat} {ag : Bool} {j : IntKind} (ho : o.op = .indexAddr t x y) (ht : P.underlying t = some (.slice e)) (hk : Ty P e ag k) (hx : opv l x = some (.slice a n c)) (hy : opv l y = some (.int j (i : Int)))
    (h1 : i < n) (hs : In (aSl R xs a n c) ats) : Qu P o l (St C own ats) (.pointer (ea a i k)) := by
  intro w hw ρ hρ
  obtain ⟨ad, rfl⟩ := (show SlP _ _ _ _ _ _ _ from hw.atom hs).some_ h1
  simp [execOp, ho, hρ x _ hx, hρ y _ hy, upE, Instr.indexAt, asIntOf, run_underlying ht, h1, hk.run_size, ea]
/-- an int of a slice that stays -/
theorem q_ldN {t : TypeId} {a : Option Addr} {n c : Nat} {k : IntKind} {xs : List Int} {i : Nat} (ho : o.op = .load t x) (ht : Ty P t false 1) (hx : opv l x = some (.pointer (ea a i 1))) (hs : In (aSl (rInt k) xs a n c) ats) (hi : i < n) : Qu P o l (St C own ats) (.int k (xs.getD i 0)) := by
  intro w hw ρ hρ
  obtain ⟨ad0, h1, h2⟩ := (show SlP _ _ _ _ _ _ _ from hw.atom hs).int hi
  subst h1
  have := hρ x _ hx
  simp only [ea, Option.map_some, Nat.mul_one] at this
  simp [execOp, ho, this, upE, Instr.loadAt, Instr.sureAddr, loadVar, ht.run_agg, h2]

theorem PutL.run {cs vs cs' : List Value} {off : Nat} (h : PutL cs off vs cs') : ∀ (g T : Nat) (w : World) (pre : List Value) (i0 : Nat), w.heap[g]? = some (.cells (pre ++ cs).toArray T (0, 0)) → i0 = pre.length → (∀ v ∈ vs, v.oneCell' = true) → ∀ (ad : Addr) (s : Nat), ad.add s = ⟨g, i0 + off, none⟩ → ad.spot = none →
    ∃ w', (storeCells ad vs s).run P w = .ok () w' ∧ w'.heap[g]? = some (.cells (pre ++ cs').toArray T (0, 0)) ∧ Kept [g] w w' ∧ cs'.length = cs.length := by
  induction h with
  | z =>
    intro g T w pre i0 hg _ _ ad s _ _
    exact ⟨w, by simp [storeCells], hg, Kept.refl _ _, rfl⟩
  | s _ ih =>
    rename_i x v r vs r' hsub
    intro g T w pre i0 hg hi hone ad s had hsp
    subst hi
    have hcell : w.cell? ⟨g, pre.length + 0, none⟩ = some x := by
      rw [cell_of_row w g _ _ T (0, 0) hg]; simp
    have hfz : w.frozen? ⟨g, pre.length + 0, none⟩ = false := by simp [World.frozen?, hg]
    have hset : (w.setCell ⟨g, pre.length + 0, none⟩ v).heap[g]? = some (.cells ((pre ++ [v]) ++ r).toArray T (0, 0)) := by
      simp only [World.setCell, Array.getElem?_modify, hg]
      simp
    obtain ⟨w', h1, h2, h3, h4⟩ := ih g T (w.setCell ⟨g, pre.length + 0, none⟩ v) (pre ++ [v]) (pre.length + 1) hset (by simp) (fun u hu => hone u (List.mem_cons_of_mem _ hu)) ad (s + 1)
      (by rw [← add_add', had, addr_add]) hsp
    refine ⟨w', ?_, by simpa using h2, (Kept.setCell w ⟨g, pre.length + 0, none⟩ v).trans h3, by simp [h4]⟩
    have hv1 : v.oneCell' = true := hone v (List.mem_cons_self ..)
    rw [storeCells, had]
    simp only [Sem.run_bind]
    rw [run_store P w _ v .plain hv1]
    simp only [hcell, hfz]
    simpa using h1
  | t _ ih =>
    rename_i x r vs r' i hsub
    intro g T w pre i0 hg hi hone ad s had hsp
    subst hi
    obtain ⟨w', h1, h2, h3, h4⟩ := ih g T w (pre ++ [x]) (pre.length + 1) (by simpa using hg) (by simp) hone ad s (by rw [had]; congr 1; omega) hsp
    exact ⟨w', h1, by simpa using h2, h3, by simp [h4]⟩

theorem PutL.length {cs vs cs' : List Value} {off : Nat} (h : PutL cs off vs cs') : cs'.length = cs.length := by
  induction h with
  | z => rfl
  | s _ ih => simp [ih]
  | t _ ih => simp [ih]

/-- store: for the operation's own list of what is left -/
theorem l_st {t T g off k : Nat} {ag : Bool} {v : Value} {vs cs cs' : List Value} (ho : o.op = .store t x y) (ht : Ty P t ag k) (hx : opv l x = some (.pointer (some ⟨g, off, none⟩))) (hy : opv l y = some v) (hvs : v.cells.toList = vs) (hlen : vs.length = k) (h1 : vs.all (·.oneCell') = true)
    (hs : Put own (rBlk g T cs) (rBlk g T cs') own') (hp : PutL cs off vs cs') : Lo P o l C own ats (fun _ : Unit => True) (fun _ => undef) (fun _ => own') (fun _ => ats) := by
  intro w hw ρ hρ
  have hmem : (rBlk g T cs).p w := by
    obtain ⟨rest, h2, _⟩ := hs.perms
    exact hw.hp.has _ (h2.mem_iff.2 (List.mem_cons_self ..))
  obtain ⟨w', h2, h3, h4, _⟩ := hp.run (P := P) g T w [] 0 hmem rfl (fun u hu => List.all_eq_true.1 h1 u hu) ⟨g, off, none⟩ 0 (by simp [Addr.add]) rfl
  have hsz : v.cells.size = k := by rw [← hlen, ← hvs]; simp
  have hrun : (storeVar t ⟨g, off, none⟩ v).run P w = .ok () w' := by
    unfold storeVar
    simp only [Sem.run_bind, ht.run_size]
    simp [hsz, hvs, h2]
  simp only [execOp, ho, hρ x _ hx, hρ y _ hy, Instr.storeAt, Instr.sureAddr, upE]
  simp only [Sem.run_bind, Sem.run_pure, Result.andThen_ok, hrun]
  refine ⟨(), trivial, ?_, hw.put hs h4 h3 (by simp [rBlk]) (fun b hb => .inl hb)⟩
  first | rfl | trivial

theorem l_alloc {t : TypeId} {z : Value} {cs : List Value} (ho : o.op = .alloc t) (hz : TyZ P t z) (hc : z.cells.toList = cs) : Lo P o l C own ats (fun _ : Nat => True) (fun g => .pointer (some ⟨g, 0, none⟩)) (fun g => rBlk g t cs :: own) (fun _ => ats) := by
  intro w hw ρ hρ
  have hzc : z.cells = cs.toArray := by rw [← hc]
  simp only [execOp, ho, Instr.alloc, upE, newVar, newRow, newObj]
  simp only [Sem.run_bind, hz.run, Result.andThen_ok]
  refine ⟨w.heap.size, trivial, rfl, ?_⟩
  refine hw.new (Kept.alloc [] w _) ?_ (by simp [rBlk]) (fun b hb => by rw [List.mem_singleton.1 hb]; exact Nat.le_refl _)
  show (w.alloc _).heap[w.heap.size]? = _
  rw [heap_alloc_new, hzc]

theorem l_box {t : TypeId} {v : Value} {cs : List Value} (ho : o.op = .box t x) (hx : opv l x = some v) (hc : v.cells.toList = cs) : Lo P o l C own ats (fun _ : Nat => True) (fun g => .pointer (some ⟨g, 0, none⟩)) (fun g => rBlk g t cs :: own) (fun _ => ats) := by
  intro w hw ρ hρ
  have hzc : v.cells = cs.toArray := by rw [← hc]
  simp only [execOp, ho, Instr.box, upE, newVar, newRow, newObj, hρ x _ hx]
  refine ⟨w.heap.size, trivial, rfl, ?_⟩
  refine hw.new (Kept.alloc [] w _) ?_ (by simp [rBlk]) (fun b hb => by rw [List.mem_singleton.1 hb]; exact Nat.le_refl _)
  show (w.alloc _).heap[w.heap.size]? = _
  rw [heap_alloc_new, hzc]

theorem l_boxA {t : TypeId} {cs : List Value} (ho : o.op = .box t x) (hx : opv l x = some (.agg cs.toArray)) : Lo P o l C own ats (fun _ : Nat => True) (fun g => .pointer (some ⟨g, 0, none⟩)) (fun g => rBlk g t cs :: own) (fun _ => ats) :=
  l_box ho hx rfl
theorem l_box1 {t : TypeId} {v : Value} (ho : o.op = .box t x) (hx : opv l x = some v) (hv : v.oneCell' = true) : Lo P o l C own ats (fun _ : Nat => True) (fun g => .pointer (some ⟨g, 0, none⟩)) (fun g => rBlk g t [v] :: own) (fun _ => ats) :=
  l_box ho hx (by cases v <;> first | rfl | cases hv)

inductive App {α : Type} : List α → List α → List α → Prop
  | nil {l : List α} : App [] l l
  | cons {x : α} {a l r : List α} (h : App a l r) : App (x :: a) l (x :: r)
theorem App.eq {α : Type} {a l r : List α} (h : App a l r) : a ++ l = r := by
  induction h with
  | nil => rfl
  | cons _ ih => rw [List.cons_append, ih]

/-- A call, by its contract. -/
def Enters (P : Program) (f : FuncId) : Prop := ∀ args w, (callFunc f args).run P w = .ok (.enter f args) w

theorem ent_of {f : FuncId} {fn : Func} {c : Code} (hf : P.funcs[f]? = some fn) (hname : (fn.name == "runtime.NumGoroutine") = false) (hb : fn.body = some c) : Enters P f := by
  intro args w
  have h1 : fn.name ≠ "runtime.NumGoroutine" := by simpa using hname
  simp [callFunc, hf, h1, hb, mark]

theorem l_call {f : FuncId} {args : Array Operand} {tys : Array TypeId} {vs : List Value} {rs rest : List Res} {pre : List Atom} {β : Type} {φ : β → Prop} {post : β → Value} {rs' : β → List Res} {as : β → List Atom}
    (ho : o.op = .call { callee := .value (.func f), args := args, argTypes := tys }) (he : Enters P f) (hv : vals l args.toList = some vs) (hc : Con P f vs.toArray rs pre φ post rs' as) (hp : Pick own rs rest) (ha : Ins pre ats) {own1 : β → List Res} {ats1 : β → List Atom} (h1 : ∀ y, App (rs' y) rest (own1 y)) (h2 : ∀ y, App (as y) ats (ats1 y)) :
    Lo P o l C own ats φ post own1 ats1 := by
  have e1 : own1 = fun y => rs' y ++ rest := funext fun y => (h1 y).eq.symm
  have e2 : ats1 = fun y => as y ++ ats := funext fun y => (h2 y).eq.symm
  subst e1; subst e2
  intro w hw ρ hρ
  have ea : args.map ρ = vs.toArray := by rw [← vals_map hρ hv, ← Array.toList_map, Array.toArray_toList]
  have he' : ∀ args w, (callFunc f args).run P w = .ok (.enter f args) w := he
  have hfn : ρ (.func f) = .func (.func f) #[] #[] := hρ (.func f) _ rfl
  simp only [execOp, ho, resolve, hfn, ea, Deferred.ofValue, upE]
  simp only [Sem.run_bind, Sem.run_pure, Result.andThen_ok, invoke, Array.empty_append, Array.append_empty, he']
  refine (St.call hc hw hp ha).mono ?_
  rintro e w' ⟨y, h1, h2, h3⟩
  exact ⟨post y, h2, y, h1, rfl, h3⟩

theorem T_skip_next {n : Nat} {y : Code} {Q Q' : Exit → LEnv → World → Prop} (e : ∀ w, Q .normal l w = cw P n y l w Q') (h : T P n y l C own ats Q') : T P n .skip l C own ats Q := T_skip fun w hw => by rw [e w]; exact h w hw

/-- out of blocks in the midst of which it stands -/
theorem T_exit_next {n id : Nat} {y : Code} {Q Q' : Exit → LEnv → World → Prop} (e : ∀ w, Q (.exit id) l w = cw P n y l w Q') (h : T P n y l C own ats Q') :
    T P n (.exit id) l C own ats Q := T_exit fun w hw => by rw [e w]; exact h w hw

/-! ### 6. Results -/
theorem res_0 {w : World} : resL P #[] l w (.tuple #[]) := fun _ _ _ hr => results_none hr _ _ _
theorem res_1 {w : World} {t : Nat} {v : Value} (h : lk l t = some v) : resL P #[.tmp t] l w v := fun a ha fn hr => by
  rw [results_tmp hr, ha t v h]
theorem res_2 {w : World} {t u : Nat} {v1 v2 : Value} (h1 : lk l t = some v1) (h2 : lk l u = some v2) : resL P #[.tmp t, .tmp u] l w (.tuple #[v1, v2]) := fun a ha fn hr => by
  rw [results_tmp2 hr, ha t v1 h1, ha u v2 h2]
end

section
variable {P : Program} {l : LEnv} {w : World}
theorem run_cell {t T g k : Nat} {cs : List Value} (ht : Ty P t true k) (hk : cs.length = k) (hr : (rBlk g T cs).p w) : (loadVar t ⟨g, 0, none⟩).run P w = .ok (.agg cs.toArray) w := by
  have hc := run_loadCells_at (P := P) (w := w) (ad := ⟨g, 0, none⟩) (vs := cs) (fun j v hv => by rw [addr_add, Nat.zero_add]; exact cell_blk hr hv)
  rw [hk] at hc
  simp [loadVar, ht.run_agg, ht.run_size, hc]
theorem res_c {a t T g k : Nat} {cs : List Value} (ha : lk l a = some (.pointer (some ⟨g, 0, none⟩))) (ht : Ty P t true k) (hk : cs.length = k) (hr : (rBlk g T cs).p w) : resL P #[.cell a t] l w (.agg cs.toArray) := fun A hA fn hres => by
  have := run_cell ht hk hr
  have h1 := hA a _ ha
  simp only [Array.getD_eq_getD_getElem?] at h1
  simp [results, hres, h1, asAddr, this]
theorem res_ct {a t T g k u : Nat} {cs : List Value} {v : Value} (ha : lk l a = some (.pointer (some ⟨g, 0, none⟩))) (ht : Ty P t true k) (hk : cs.length = k) (hr : (rBlk g T cs).p w) (hu : lk l u = some v) : resL P #[.cell a t, .tmp u] l w (.tuple #[.agg cs.toArray, v]) := fun A hA fn hres => by
  have := run_cell ht hk hr
  have h1 := hA a _ ha
  have h2 := hA u _ hu
  simp only [Array.getD_eq_getD_getElem?] at h1 h2
  simp [results, hres, h1, h2, asAddr, this]
end
end Go.Proofs.YtgbhegmhbeekpaaGreat
