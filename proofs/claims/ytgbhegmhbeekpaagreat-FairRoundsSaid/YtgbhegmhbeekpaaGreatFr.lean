/-
  Rules for walking Go functions with an environment that lists what is known of each slot, over any order of a region's operations. No program in sight.
-/
import Derived.Calls
import Derived.Orders
import Derived.Tactics
import Derived.Deep.LoopGhost
import Derived.Below

namespace Go.Proofs.YtgbhegmhbeekpaaGreat
open Go

/-! ### 1. What is known of the slots -/
abbrev LEnv := List (Nat × Value)

def lk : LEnv → Nat → Option Value
  | [], _ => none
  | (k, v) :: l, t => bif Nat.beq k t then some v else lk l t

theorem lk_cons (k : Nat) (v : Value) (l : LEnv) (t : Nat) : lk ((k, v) :: l) t = if k = t then some v else lk l t := by
  show (bif Nat.beq k t then some v else lk l t) = _
  by_cases h : k = t
  · subst h; simp
  · have : Nat.beq k t = false := by
      cases hb : Nat.beq k t
      · rfl
      · exact absurd (Nat.eq_of_beq_eq_true hb) h
    rw [this, if_neg h]; rfl

def opv (l : LEnv) : Operand → Option Value
  | .tmp t => lk l t
  | .const v => some v
  | .global g => some (.pointer (some ⟨g, 0, none⟩))
  | .func f => some (.func (.func f) #[] #[])

/-- A valuation of operands that has what is known. -/
def Agr (ρ : Operand → Value) (l : LEnv) : Prop := ∀ x v, opv l x = some v → ρ x = v

/-- The frame has what is known. -/
def Ag (a : Act) (l : LEnv) : Prop := ∀ t v, lk l t = some v → a.tmps.getD t undef = v

theorem Ag.agr {a : Act} {l : LEnv} (h : Ag a l) : Agr a.eval l := by
  intro x v hx
  cases x <;> simp only [opv] at hx
  · exact h _ _ hx
  all_goals (injection hx with hx; try exact hx)

structure Ok (n : Nat) (a : Act) : Prop where
  size : a.tmps.size = n
  defers : a.defers = []

def pushd (l : LEnv) : Option Tmp → Value → LEnv
  | some d, v => (d, v) :: l
  | none, _ => l

def dstFits (n : Nat) : Option Tmp → Bool
  | some d => Nat.blt d n
  | none => true

theorem Ok.put {n : Nat} {a : Act} (h : Ok n a) (d : Option Tmp) (v : Value) : Ok n (a.put d v) := by
  cases d with
  | none => exact h
  | some d => exact ⟨by simp [Act.put, h.size], by simp [Act.put, h.defers]⟩

theorem put_get {n : Nat} {a : Act} (h : Ok n a) {d : Nat} (hd : d < n) (v : Value) (t : Nat) :
    (a.put (some d) v).tmps.getD t undef = if d = t then v else a.tmps.getD t undef := by
  simp only [Act.put, Array.getD_eq_getD_getElem?]
  by_cases e : d = t
  · subst e
    rw [if_pos rfl, Array.getElem?_setIfInBounds_self_of_lt (by rw [h.size]; exact hd)]
    rfl
  · rw [if_neg e, Array.getElem?_setIfInBounds_ne e]

theorem Ag.put {n : Nat} {a : Act} {l : LEnv} (h : Ag a l) (ho : Ok n a) {d : Option Tmp} (hd : dstFits n d = true) (v : Value) :
    Ag (a.put d v) (pushd l d v) := by
  cases d with
  | none => exact h
  | some d =>
    have hlt : d < n := Nat.le_of_ble_eq_true hd
    intro t u hu
    rw [put_get ho hlt]
    simp only [pushd, lk_cons] at hu
    by_cases e : d = t
    · rw [if_pos e] at hu ⊢
      injection hu
    · rw [if_neg e] at hu ⊢
      exact h t u hu

/-! ### 2. Code -/
def liftQ (n : Nat) (Q : Exit → LEnv → World → Prop) : Exit → Act → World → Prop :=
  fun e a w => Ok n a ∧ ∃ l, Ag a l ∧ Q e l w

def cw (P : Program) (n : Nat) (c : Code) (l : LEnv) (w : World) (Q : Exit → LEnv → World → Prop) : Prop :=
  ∀ a, Ok n a → Ag a l → c.wp P (liftQ n Q) a w

section
variable {P : Program} {n : Nat} {l : LEnv} {w : World} {Q Q' : Exit → LEnv → World → Prop}

def seqQ (K : LEnv → World → Prop) (Q : Exit → LEnv → World → Prop) : Exit → LEnv → World → Prop
  | .normal, l, w => K l w
  | e, l, w => Q e l w

theorem cw_mono {c : Code} (h : cw P n c l w Q) (hq : ∀ e l w, Q e l w → Q' e l w) : cw P n c l w Q' :=
  fun a ho hl => wp_mono (h a ho hl) fun _ _ _ ⟨h1, l', h2, h3⟩ => ⟨h1, l', h2, hq _ _ _ h3⟩

theorem cw_forget {c : Code} {l' : LEnv} (h : cw P n c l' w Q) (hl : ∀ t v, lk l' t = some v → lk l t = some v) : cw P n c l w Q :=
  fun a ho ha => h a ho fun t v hv => ha t v (hl t v hv)

theorem cw_seq {x y : Code} (h : cw P n x l w (seqQ (fun l w => cw P n y l w Q) Q)) : cw P n (.seq x y) l w Q := by
  intro a ho hl
  refine wp_seq (wp_mono (h a ho hl) ?_)
  intro e a' w' ⟨h1, l', h2, h3⟩
  cases e <;> first | exact h3 _ h1 h2 | exact ⟨h1, l', h2, h3⟩

theorem cw_skip (h : Q .normal l w) : cw P n .skip l w Q := fun _ ho hl => wp_skip ⟨ho, l, hl, h⟩
theorem cw_exit {id : Nat} (h : Q (.exit id) l w) : cw P n (.exit id) l w Q := fun _ ho hl => wp_exit ⟨ho, l, hl, h⟩
theorem cw_ret (h : Q .ret l w) : cw P n .ret l w Q := fun _ ho hl => wp_ret ⟨ho, l, hl, h⟩

theorem cw_cond {c : Operand} {x y : Code} {b : Bool} (hc : opv l c = some (.bool b)) (ht : b = true → cw P n x l w Q) (hf : b = false → cw P n y l w Q) :
    cw P n (.cond c x y) l w Q :=
  fun a ho hl => wp_cond_split (hl.agr _ _ hc) (fun h => ht h a ho hl) (fun h => hf h a ho hl)

def blockQ (id : Nat) (Q : Exit → LEnv → World → Prop) : Exit → LEnv → World → Prop
  | .exit id', l, w => bif Nat.beq id' id then Q .normal l w else Q (.exit id') l w
  | e, l, w => Q e l w

theorem cw_block {id : Nat} {c : Code} (h : cw P n c l w (blockQ id Q)) : cw P n (.block id c) l w Q := by
  intro a ho hl
  refine wp_block (wp_mono (h a ho hl) ?_)
  intro e a' w' ⟨h1, l', h2, h3⟩
  cases e with
  | exit id' =>
    simp only [blockQ] at h3
    simp only [Exit.inBlock]
    by_cases e : id' = id
    · subst e
      rw [if_pos rfl]
      exact ⟨h1, l', h2, by simpa using h3⟩
    · have : Nat.beq id' id = false := by
        cases hb : Nat.beq id' id
        · rfl
        · exact absurd (Nat.eq_of_beq_eq_true hb) e
      rw [if_neg e]
      exact ⟨h1, l', h2, by simpa [this] using h3⟩
  | _ => exact ⟨h1, l', h2, h3⟩

/-- A loop: x: what the rounds so far have come to; m: how many are still to come at most. -/
theorem cw_loop {α : Type} {c : Code} (I : α → LEnv → World → Prop) (m : α → Nat) (x₀ : α) (h₀ : I x₀ l w)
    (round : ∀ x l w, I x l w → cw P n c l w (seqQ (fun l' w' => ∃ x', m x' < m x ∧ I x' l' w') Q)) : cw P n (.loop c) l w Q := by
  intro a ho hl
  refine wp_loop_ghost (fun k a w => Ok n a ∧ ∃ x l, m x = k ∧ Ag a l ∧ I x l w) (m x₀) ⟨ho, x₀, l, rfl, hl, h₀⟩ ?_
  intro k a w ⟨ho, x, l, hm, hl, hI⟩
  refine wp_mono (round x l w hI a ho hl) ?_
  intro e a' w' ⟨h1, l', h2, h3⟩
  cases e <;> first
    | (obtain ⟨x', hlt, hI'⟩ := h3; exact ⟨m x', hm ▸ hlt, h1, x', l', rfl, h2, hI'⟩)
    | exact ⟨h1, l', h2, h3⟩
end

/-! ### 3. One operation -/
/-- What the operation comes to. -/
def upE (P : Program) (K : Value → World → Prop) : Result Next → Prop
  | .ok (.value v) w => K v w
  | .ok .skip w => K undef w
  | .ok (.enter f args) w => Calls P f args w fun e w' => ∃ v, e = .returned v ∧ K v w'
  | _ => False

def opL (P : Program) (o : Oper) (l : LEnv) (K : Value → World → Prop) (w : World) : Prop :=
  ∀ ρ, Agr ρ l → upE P K ((execOp ρ o).run P w)

theorem upE_mono {P : Program} {K K' : Value → World → Prop} {r : Result Next} (h : upE P K r) (hk : ∀ v w, K v w → K' v w) : upE P K' r := by
  cases r with
  | ok n w =>
    cases n <;> simp only [upE] at h ⊢ <;> first
      | exact hk _ _ h
      | exact h.mono fun e w' ⟨v, he, hK⟩ => ⟨v, he, hk _ _ hK⟩
  | halt x w => exact h

theorem opL.mono {P : Program} {o : Oper} {l : LEnv} {K K' : Value → World → Prop} {w : World} (h : opL P o l K w) (hk : ∀ v w, K v w → K' v w) : opL P o l K' w :=
  fun ρ hρ => upE_mono (h ρ hρ) hk

/-- Only what the operands are counts. -/
theorem opL.local {P : Program} {o : Oper} {l : LEnv} {K : Value → World → Prop} {w : World} (h : opL P o l K w) (hs : ∀ cs b, o.op ≠ .select cs b)
    (ρ : Operand → Value) (hρ : ∀ x ∈ o.op.operands, ∀ v, opv l x = some v → ρ x = v) : upE P K ((execOp ρ o).run P w) := by
  have h1 := h (fun x => (opv l x).getD (ρ x)) (fun x v hx => by simp [hx])
  rw [execOp_congr (ρ' := ρ) o hs (fun x hx => by
    cases hv : opv l x with
    | none => simp
    | some v => simp [hρ x hx v hv])] at h1
  exact h1

theorem oper_wp_of_upE {P : Program} {o : Oper} {a : Act} {w : World} {K' : Act → World → Prop} {Q : Exit → Act → World → Prop}
    (h : upE P (fun v w' => K' (a.put o.dst v) w') ((execOp a.eval o).run P w)) : o.wp P a w K' Q := by
  unfold Oper.wp
  generalize (execOp a.eval o).run P w = r at *
  cases r with
  | ok nx w' =>
    cases nx <;> simp only [upE] at h <;> simp only [Oper.upon]
    case value v => exact h
    case skip => exact h
    case enter f args =>
      refine h.mono ?_
      rintro e w'' ⟨v, rfl, hK⟩
      exact hK
  | halt x w' => exact h.elim

/-- Is it wanted? (a guard's operation has told a bool that is known) -/
def wantd (ops : Array Oper) (o : Oper) (l : LEnv) : Option Bool :=
  match o.guard with
  | none => some true
  | some (g, want) => match (ops[g]?).bind (·.dst) with
    | some d => match lk l d with
      | some (.bool b) => some (b == want)
      | _ => none
    | none => none

theorem wanted_of {ops : Array Oper} {o : Oper} {l : LEnv} {b : Bool} (h : wantd ops o l = some b) (a : Act) (ha : ∀ g want d v, o.guard = some (g, want) → (ops[g]?).bind (·.dst) = some d → lk l d = some v → a.tmps[d]? = some v) :
    Region.wanted o (yielded ops a.tmps) = b := by
  unfold wantd at h
  unfold Region.wanted
  cases hg : o.guard with
  | none => simp [hg] at h; simp [h]
  | some p =>
    obtain ⟨g, want⟩ := p
    simp only [hg] at h
    cases hd : (ops[g]?).bind (·.dst) with
    | none => simp [hd] at h
    | some d =>
      simp only [hd] at h
      cases hv : lk l d with
      | none => simp [hv] at h
      | some v =>
        have := ha g want d v hg hd hv
        cases v <;> simp [hv] at h
        simp only [yielded, hd, Option.bind_some, this]
        rw [← h]
        simp

/-! ### 4. A plain region -/
def opsL (P : Program) (ops : Array Oper) : List Oper → LEnv → World → (LEnv → World → Prop) → Prop
  | [], l, w, K => K l w
  | o :: rest, l, w, K => match wantd ops o l with
    | some true => opL P o l (fun v w' => opsL P ops rest (pushd l o.dst v) w' K) w
    | some false => opsL P ops rest (pushd l o.dst undef) w K
    | none => False

def fitsAll (n : Nat) (ops : List Oper) : Bool := ops.all fun o => dstFits n o.dst

theorem lt_of_get {a : Act} {l : LEnv} (hl : Ag a l) {d : Nat} {b : Bool} (hv : lk l d = some (.bool b)) : a.tmps[d]? = some (.bool b) := by
  have h1 := hl d _ hv
  rw [Array.getD_eq_getD_getElem?] at h1
  cases hd : a.tmps[d]? with
  | none => rw [hd] at h1; cases h1
  | some v => rw [hd] at h1; simpa using h1

theorem wantd_bool {ops : Array Oper} {o : Oper} {l : LEnv} {b : Bool} (h : wantd ops o l = some b) {g : Nat} {want : Bool} {d : Nat} {v : Value} (hg : o.guard = some (g, want)) (hd : (ops[g]?).bind (·.dst) = some d) (hv : lk l d = some v) : ∃ c, v = .bool c := by
  unfold wantd at h
  simp only [hg, hd, hv] at h
  cases v <;> simp at h
  exact ⟨_, rfl⟩

theorem wpList_of_opsL {P : Program} {n : Nat} {ops : Array Oper} {Q : Exit → LEnv → World → Prop} :
    ∀ (rest : List Oper) (l : LEnv) (w : World), fitsAll n rest = true → opsL P ops rest l w (fun l w => Q .normal l w) → ∀ a, Ok n a → Ag a l → wpList P ops (liftQ n Q) rest a w
  | [], l, w, _, h, a, ho, hl => ⟨ho, l, hl, h⟩
  | o :: rest, l, w, hf, h, a, ho, hl => by
    simp only [fitsAll, List.all_cons, Bool.and_eq_true] at hf
    obtain ⟨hf1, hf2⟩ := hf
    unfold opsL at h
    unfold wpList
    cases hw : wantd ops o l with
    | none => rw [hw] at h; exact h.elim
    | some b =>
      have hwd := wanted_of hw a (fun g want d v hg hd hv => by
        obtain ⟨c, rfl⟩ := wantd_bool hw hg hd hv
        exact lt_of_get hl hv)
      rw [hwd]
      cases b with
      | true =>
        rw [hw] at h
        rw [if_pos rfl]
        refine .inl (oper_wp_of_upE (upE_mono (h a.eval hl.agr) ?_))
        intro v w' hK
        exact wpList_of_opsL rest _ w' hf2 hK _ (ho.put _ _) (hl.put ho hf1 v)
      | false =>
        rw [hw] at h
        rw [if_neg (by simp)]
        exact wpList_of_opsL rest _ w hf2 h _ (ho.put _ _) (hl.put ho hf1 undef)

theorem cw_region {P : Program} {n id : Nat} {ops : List Oper} {l : LEnv} {w : World} {Q : Exit → LEnv → World → Prop} (hf : fitsAll n ops = true)
    (h : opsL P ops.toArray ops l w (fun l w => Q .normal l w)) : cw P n (.region id ops.toArray false) l w Q :=
  fun a ho hl => wp_region_lit (wpList_of_opsL ops l w hf h a ho hl)
end Go.Proofs.YtgbhegmhbeekpaaGreat
