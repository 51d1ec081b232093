/-
  What is known of memory: resources that the call may write, facts that stay; contracts; the rules for code over them.
-/
import Derived.Test.YtgbhegmhbeekpaaGreatFrDr
import Derived.Laws.AppendOwn

namespace Go.Proofs.YtgbhegmhbeekpaaGreat
open Go

/-! ### 1. Memory that stays -/
/-- Of what was there all but the blocks of M is as it was. -/
structure Kept (M : List Nat) (w w' : World) : Prop where
  size : w.heap.size ≤ w'.heap.size
  blk : ∀ b, b < w.heap.size → b ∉ M → w'.heap[b]? = w.heap[b]?
  os : w'.os = w.os
  tape : w'.tape = w.tape
  output : w'.output = w.output
  drawn : w.drawn ≤ w'.drawn

theorem Kept.refl (M : List Nat) (w : World) : Kept M w w := ⟨Nat.le_refl _, fun _ _ _ => rfl, rfl, rfl, rfl, Nat.le_refl _⟩
theorem Kept.mono {M M' : List Nat} {w w' : World} (h : Kept M w w') (hm : ∀ b ∈ M, b ∈ M') : Kept M' w w' :=
  ⟨h.size, fun b hb hn => h.blk b hb fun hm' => hn (hm b hm'), h.os, h.tape, h.output, h.drawn⟩
theorem Kept.trans {M : List Nat} {a b c : World} (h : Kept M a b) (k : Kept M b c) : Kept M a c :=
  ⟨Nat.le_trans h.size k.size, fun i hi hn => (k.blk i (Nat.lt_of_lt_of_le hi h.size) hn).trans (h.blk i hi hn), k.os.trans h.os, k.tape.trans h.tape, k.output.trans h.output, Nat.le_trans h.drawn k.drawn⟩
theorem Kept.drew (M : List Nat) (w : World) : Kept M w { w with drawn := w.drawn + 1 } := ⟨Nat.le_refl _, fun _ _ _ => rfl, rfl, rfl, rfl, Nat.le_succ _⟩
theorem Kept.alloc (M : List Nat) (w : World) (o : Obj) : Kept M w (w.alloc o) :=
  ⟨by simp, fun b hb _ => heap_alloc_old w o b hb, rfl, rfl, rfl, Nat.le_refl _⟩
theorem Kept.of_grown {w w' : World} {row : Option Nat} (h : w.grownBy w' row) (hd : w.drawn ≤ w'.drawn) : Kept row.toList w w' :=
  ⟨h.size, fun b hb hn => h.block b hb (fun e => hn (by rw [← e]; simp)), h.os, h.tape, h.output, hd⟩
theorem Kept.setCell (w : World) (a : Addr) (v : Value) : Kept [a.block] w (w.setCell a v) :=
  ⟨by simp [World.setCell], fun b _ hn => by simp only [World.setCell, Array.getElem?_modify]; rw [if_neg (by simpa using Ne.symm (by simpa using hn))], rfl, rfl, rfl, Nat.le_refl _⟩

/-- A fact that stays as long as the blocks of M alone are written. -/
structure Atom where
  p : List Nat → World → Prop
  mov : ∀ {M M' : List Nat} {w w' : World}, p M w → Kept M w w' → (∀ b ∈ M', b ∈ M ∨ w.heap.size ≤ b) → p M' w'

theorem Atom.sub (A : Atom) {M M' : List Nat} {w : World} (h : A.p M w) (hs : ∀ b ∈ M', b ∈ M) : A.p M' w := A.mov h (Kept.refl _ _) fun b hb => .inl (hs b hb)

/-- What lies in blocks of its own. -/
structure Res where
  blks : List Nat
  p : World → Prop
  keep : ∀ {w w' : World}, p w → w.heap.size ≤ w'.heap.size → (∀ b ∈ blks, w'.heap[b]? = w.heap[b]?) → p w'
  lt : ∀ {w : World}, p w → ∀ b ∈ blks, b < w.heap.size

def bks (own : List Res) : List Nat := own.flatMap Res.blks
theorem bks_cons (r : Res) (own : List Res) : bks (r :: own) = r.blks ++ bks own := rfl
theorem bks_append (a b : List Res) : bks (a ++ b) = bks a ++ bks b := by simp [bks]
theorem mem_bks {own : List Res} {b : Nat} : b ∈ bks own ↔ ∃ r ∈ own, b ∈ r.blks := List.mem_flatMap

theorem bks_sub {own own' : List Res} (ho : own'.Sublist own) : (bks own').Sublist (bks own) := by
  unfold bks
  induction ho with
  | slnil => exact List.Sublist.slnil
  | cons a _ ih => simp only [List.flatMap_cons]; exact List.sublist_append_of_sublist_right ih
  | cons_cons a _ ih => simp only [List.flatMap_cons]; exact List.Sublist.append (List.Sublist.refl _) ih

structure Hp (M : List Nat) (own : List Res) (ats : List Atom) (w : World) : Prop where
  lt : ∀ b ∈ M, b < w.heap.size
  nd : (bks own).Nodup
  dj : ∀ b ∈ M, b ∉ bks own
  has : ∀ r ∈ own, r.p w
  ats : ∀ A ∈ ats, A.p (M ++ bks own) w

theorem Hp.blt {M : List Nat} {own : List Res} {ats : List Atom} {w : World} (h : Hp M own ats w) : ∀ b ∈ bks own, b < w.heap.size := by
  intro b hb
  obtain ⟨r, hr, hbr⟩ := mem_bks.1 hb
  exact r.lt (h.has r hr) b hbr

theorem Hp.drew {M : List Nat} {own : List Res} {ats : List Atom} {w : World} (h : Hp M own ats w) : Hp M own ats { w with drawn := w.drawn + 1 } :=
  ⟨h.lt, h.nd, h.dj, fun r hr => r.keep (h.has r hr) (Nat.le_refl _) fun _ _ => rfl, fun A hA => A.mov (h.ats A hA) (Kept.drew _ _) fun _ hb => .inl hb⟩

theorem Hp.perm {M : List Nat} {own own' : List Res} {ats : List Atom} {w : World} (h : Hp M own ats w) (hp : own.Perm own') : Hp M own' ats w := by
  have hb : (bks own).Perm (bks own') := hp.flatMap_right _
  exact ⟨h.lt, hb.nodup_iff.1 h.nd, fun b hb' hc => h.dj b hb' (hb.mem_iff.2 hc), fun r hr => h.has r (hp.mem_iff.2 hr), fun A hA => A.sub (h.ats A hA) fun b hb' => by
    simp only [List.mem_append] at hb' ⊢
    exact hb'.imp id hb.mem_iff.2⟩

theorem Hp.weak {M : List Nat} {own own' : List Res} {ats ats' : List Atom} {w : World} (h : Hp M own ats w) (ho : own'.Sublist own) (ha : ∀ A ∈ ats', A ∈ ats) : Hp M own' ats' w := by
  have hb : (bks own').Sublist (bks own) := bks_sub ho
  exact ⟨h.lt, h.nd.sublist hb, fun b hb' hc => h.dj b hb' (hb.subset hc), fun r hr => h.has r (ho.subset hr), fun A hA => A.sub (h.ats A (ha A hA)) fun b hb' => by
    simp only [List.mem_append] at hb' ⊢
    exact hb'.imp id fun h => hb.subset h⟩

/-- A step that writes the blocks of rs alone (and new ones). -/
theorem Hp.step {M : List Nat} {rs rs' rest : List Res} {ats ats' : List Atom} {w w' : World} (h : Hp M (rs ++ rest) ats w) (k : Kept (bks rs) w w')
    (h' : Hp (M ++ bks rest) rs' ats' w') (hf : ∀ b ∈ bks rs', b ∈ bks rs ∨ w.heap.size ≤ b) : Hp M (rs' ++ rest) (ats' ++ ats) w' := by
  have hnd := h.nd
  rw [bks_append, List.nodup_append] at hnd
  obtain ⟨n1, n2, n3⟩ := hnd
  refine ⟨fun b hb => Nat.lt_of_lt_of_le (h.lt b hb) k.size, ?_, ?_, ?_, ?_⟩
  · rw [bks_append, List.nodup_append]
    refine ⟨h'.nd, n2, fun a ha b hb e => ?_⟩
    subst e
    exact h'.dj a (List.mem_append_right _ hb) ha
  · intro b hb hc
    rw [bks_append, List.mem_append] at hc
    rcases hc with hc | hc
    · exact h'.dj b (List.mem_append_left _ hb) hc
    · exact h.dj b hb (by rw [bks_append]; exact List.mem_append_right _ hc)
  · intro r hr
    rcases List.mem_append.1 hr with hr | hr
    · exact h'.has r hr
    · have hrp := h.has r (List.mem_append_right _ hr)
      refine r.keep hrp k.size fun b hb => k.blk b (r.lt hrp b hb) fun hc => ?_
      exact n3 b hc b (mem_bks.2 ⟨r, hr, hb⟩) rfl
  · intro A hA
    rcases List.mem_append.1 hA with hA | hA
    · refine A.sub (h'.ats A hA) fun b hb => ?_
      simp only [bks_append, List.mem_append] at hb ⊢
      rcases hb with hb | hb | hb
      · exact .inl (.inl hb)
      · exact .inr hb
      · exact .inl (.inr hb)
    · refine A.mov (h.ats A hA) (k.mono fun b hb => by simp only [bks_append, List.mem_append]; exact .inr (.inl hb)) fun b hb => ?_
      simp only [bks_append, List.mem_append] at hb ⊢
      rcases hb with hb | hb | hb
      · exact .inl (.inl hb)
      · rcases hf b hb with h1 | h1
        · exact .inl (.inr (.inl h1))
        · exact .inr h1
      · exact .inl (.inr (.inr hb))

/-! ### 2. In a function: where it began -/
structure Ctx where
  M : List Nat
  M1 : List Nat
  w0 : World

structure St (C : Ctx) (own : List Res) (ats : List Atom) (w : World) : Prop where
  hp : Hp C.M own ats w
  kept : Kept C.M1 C.w0 w
  mine : ∀ b ∈ bks own, b ∈ C.M1 ∨ C.w0.heap.size ≤ b

section
variable {C : Ctx} {own own' rs rs' rest : List Res} {ats ats' : List Atom} {w w' : World}

theorem St.drew (h : St C own ats w) : St C own ats { w with drawn := w.drawn + 1 } := ⟨h.hp.drew, h.kept.trans (Kept.drew _ _), h.mine⟩
theorem St.perm (h : St C own ats w) (hp : own.Perm own') : St C own' ats w :=
  ⟨h.hp.perm hp, h.kept, fun b hb => h.mine b ((hp.flatMap_right Res.blks).mem_iff.2 hb)⟩
theorem St.weak (h : St C own ats w) (ho : own'.Sublist own) (ha : ∀ A ∈ ats', A ∈ ats) : St C own' ats' w :=
  ⟨h.hp.weak ho ha, h.kept, fun b hb => by
    obtain ⟨r, hr, hbr⟩ := mem_bks.1 hb
    exact h.mine b (mem_bks.2 ⟨r, ho.subset hr, hbr⟩)⟩

theorem St.step (h : St C (rs ++ rest) ats w) (k : Kept (bks rs) w w') (h' : Hp (C.M ++ bks rest) rs' ats' w') (hf : ∀ b ∈ bks rs', b ∈ bks rs ∨ w.heap.size ≤ b) :
    St C (rs' ++ rest) (ats' ++ ats) w' := by
  have hm : ∀ b ∈ bks rs, b ∈ C.M1 ∨ C.w0.heap.size ≤ b := fun b hb => h.mine b (by rw [bks_append]; exact List.mem_append_left _ hb)
  refine ⟨h.hp.step k h' hf, ⟨Nat.le_trans h.kept.size k.size, fun b hb hn => ?_, k.os.trans h.kept.os, k.tape.trans h.kept.tape, k.output.trans h.kept.output, Nat.le_trans h.kept.drawn k.drawn⟩, ?_⟩
  · refine (k.blk b (Nat.lt_of_lt_of_le hb h.kept.size) fun hc => ?_).trans (h.kept.blk b hb hn)
    rcases hm b hc with h1 | h1
    · exact hn h1
    · omega
  · intro b hb
    rw [bks_append, List.mem_append] at hb
    rcases hb with hb | hb
    · rcases hf b hb with h1 | h1
      · exact hm b h1
      · exact .inr (Nat.le_trans h.kept.size h1)
    · exact h.mine b (by rw [bks_append]; exact List.mem_append_right _ hb)

/-- A fact more, that what is known gives. -/
theorem St.know (h : St C own ats w) (A : Atom) (hA : A.p (C.M ++ bks own) w) : St C own (A :: ats) w :=
  ⟨⟨h.hp.lt, h.hp.nd, h.hp.dj, h.hp.has, fun B hB => by
    rcases List.mem_cons.1 hB with rfl | hB
    · exact hA
    · exact h.hp.ats B hB⟩, h.kept, h.mine⟩
end

inductive Sel : List Res → Res → List Res → Prop
  | head {r : Res} {l : List Res} : Sel (r :: l) r l
  | tail {x r : Res} {l l' : List Res} (h : Sel l r l') : Sel (x :: l) r (x :: l')
theorem Sel.perm {l l' : List Res} {r : Res} (h : Sel l r l') : l.Perm (r :: l') := by
  induction h with
  | head => exact List.Perm.refl _
  | tail _ ih => exact (ih.cons _).trans (List.Perm.swap ..)
theorem Sel.mem {l l' : List Res} {r : Res} (h : Sel l r l') : r ∈ l := h.perm.mem_iff.2 (List.mem_cons_self ..)

inductive Pick : List Res → List Res → List Res → Prop
  | nil {l : List Res} : Pick l [] l
  | cons {r : Res} {l l' rs rest : List Res} (h : Sel l r l') (h' : Pick l' rs rest) : Pick l (r :: rs) rest
theorem Pick.perm {l rs rest : List Res} (h : Pick l rs rest) : l.Perm (rs ++ rest) := by
  induction h with
  | nil => exact List.Perm.refl _
  | cons h _ ih => exact h.perm.trans (ih.cons _)

/-- r is made r' in its place. -/
inductive Put : List Res → Res → Res → List Res → Prop
  | head {r r' : Res} {l : List Res} : Put (r :: l) r r' (r' :: l)
  | tail {x r r' : Res} {l l' : List Res} (h : Put l r r' l') : Put (x :: l) r r' (x :: l')
theorem Put.perms {l l' : List Res} {r r' : Res} (h : Put l r r' l') : ∃ rest, l.Perm (r :: rest) ∧ l'.Perm (r' :: rest) := by
  induction h with
  | head => exact ⟨_, List.Perm.refl _, List.Perm.refl _⟩
  | tail _ ih =>
    obtain ⟨rest, h1, h2⟩ := ih
    exact ⟨_ :: rest, (h1.cons _).trans (List.Perm.swap ..), (h2.cons _).trans (List.Perm.swap ..)⟩

inductive In (A : Atom) : List Atom → Prop
  | head {l : List Atom} : In A (A :: l)
  | tail {B : Atom} {l : List Atom} (h : In A l) : In A (B :: l)
theorem In.mem {A : Atom} {l : List Atom} (h : In A l) : A ∈ l := by
  induction h with
  | head => exact List.mem_cons_self ..
  | tail _ ih => exact List.mem_cons_of_mem _ ih

inductive Ins : List Atom → List Atom → Prop
  | nil {l : List Atom} : Ins [] l
  | cons {A : Atom} {as l : List Atom} (h : In A l) (h' : Ins as l) : Ins (A :: as) l
theorem Ins.mem {as l : List Atom} (h : Ins as l) : ∀ A ∈ as, A ∈ l := by
  induction h with
  | nil => intro A hA; cases hA
  | cons h _ ih =>
    intro A hA
    rcases List.mem_cons.1 hA with rfl | hA
    · exact h.mem
    · exact ih A hA

section
variable {C : Ctx} {own own' : List Res} {ats : List Atom} {w w' : World}
theorem St.atom (h : St C own ats w) {A : Atom} (hA : In A ats) : A.p (C.M ++ bks own) w := h.hp.ats A hA.mem
theorem St.res (h : St C own ats w) {r : Res} {rest : List Res} (hr : Sel own r rest) : r.p w := h.hp.has r hr.mem

/-- One resource is written: its blocks as they were, or new ones. -/
theorem St.put (h : St C own ats w) {r r' : Res} (hp : Put own r r' own') (k : Kept r.blks w w') (hr : r'.p w') (hn : r'.blks.Nodup) (hf : ∀ b ∈ r'.blks, b ∈ r.blks ∨ w.heap.size ≤ b) : St C own' ats w' := by
  obtain ⟨rest, h1, h2⟩ := hp.perms
  have h3 := h.perm (own' := [r] ++ rest) h1
  have hb : bks [r] = r.blks := by simp [bks]
  have hb' : bks [r'] = r'.blks := by simp [bks]
  have hnd := h3.hp.nd
  rw [bks_append, List.nodup_append] at hnd
  obtain ⟨_, _, n3⟩ := hnd
  have hlt := h3.hp.blt
  have h4 := h3.step (rs' := [r']) (ats' := []) (w' := w') (by rw [hb]; exact k) ⟨?_, by rw [hb']; exact hn, ?_, ?_, fun A hA => by cases hA⟩ (by rw [hb', hb]; exact hf)
  · exact h4.perm h2.symm
  · intro b hb0
    rcases List.mem_append.1 hb0 with hb0 | hb0
    · exact Nat.lt_of_lt_of_le (h3.hp.lt b hb0) k.size
    · exact Nat.lt_of_lt_of_le (hlt b (by rw [bks_append]; exact List.mem_append_right _ hb0)) k.size
  · intro b hb0 hc
    rw [hb'] at hc
    rcases hf b hc with h5 | h5
    · rcases List.mem_append.1 hb0 with hb0 | hb0
      · exact h3.hp.dj b hb0 (by rw [bks_append, hb]; exact List.mem_append_left _ h5)
      · exact n3 b (by rw [hb]; exact h5) b hb0 rfl
    · rcases List.mem_append.1 hb0 with hb0 | hb0
      · have := h3.hp.lt b hb0; omega
      · have := hlt b (by rw [bks_append]; exact List.mem_append_right _ hb0); omega
  · intro x hx
    have : x = r' := by simpa using hx
    subst this
    exact hr

/-- Something new is made. -/
theorem St.new (h : St C own ats w) {r : Res} (k : Kept [] w w') (hr : r.p w') (hn : r.blks.Nodup) (hf : ∀ b ∈ r.blks, w.heap.size ≤ b) : St C (r :: own) ats w' := by
  have hlt := h.hp.blt
  have h3 : St C ([] ++ own) ats w := h
  have hb' : bks [r] = r.blks := by simp [bks]
  have h4 := h3.step (rs := []) (rs' := [r]) (ats' := []) (w' := w') k ⟨?_, by rw [hb']; exact hn, ?_, ?_, fun A hA => by cases hA⟩ (by rw [hb']; exact fun b hb => .inr (hf b hb))
  · exact h4
  · intro b hb0
    rcases List.mem_append.1 hb0 with hb0 | hb0
    · exact Nat.lt_of_lt_of_le (h.hp.lt b hb0) k.size
    · exact Nat.lt_of_lt_of_le (hlt b hb0) k.size
  · intro b hb0 hc
    rw [hb'] at hc
    have h5 := hf b hc
    rcases List.mem_append.1 hb0 with hb0 | hb0
    · have := h.hp.lt b hb0; omega
    · have := hlt b hb0; omega
  · intro x hx
    have : x = r := by simpa using hx
    subst this
    exact hr

/-- Memory moves on, what the call may write stays. -/
theorem St.move (h : St C own ats w) (k : Kept [] w w') : St C own ats w' := by
  have h3 : St C ([] ++ own) ats w := h
  have hlt := h.hp.blt
  refine h3.step (rs := []) (rs' := []) (ats' := []) (w' := w') k ⟨?_, by simp [bks], by simp [bks], by simp, by simp⟩ (by simp [bks])
  intro b hb0
  rcases List.mem_append.1 hb0 with hb0 | hb0
  · exact Nat.lt_of_lt_of_le (h.hp.lt b hb0) k.size
  · exact Nat.lt_of_lt_of_le (hlt b hb0) k.size
end

/-! ### 3. Contracts -/
/-- Called where rs and the facts of pre stand, it returns, for some y of which φ tells, what post tells; rs has become what rs' tells, facts as have come. -/
def Con (P : Program) (f : FuncId) (args : Array Value) (rs : List Res) (pre : List Atom) {β : Type} (φ : β → Prop) (post : β → Value) (rs' : β → List Res) (as : β → List Atom) : Prop :=
  ∀ M w, Hp M rs pre w → Calls P f args w fun e w' => ∃ y, φ y ∧ e = .returned (post y) ∧ Kept (bks rs) w w' ∧ Hp M (rs' y) (as y) w' ∧ ∀ b ∈ bks (rs' y), b ∈ bks rs ∨ w.heap.size ≤ b

theorem St.call {P : Program} {f : FuncId} {args : Array Value} {rs rest own : List Res} {pre ats : List Atom} {β : Type} {φ : β → Prop} {post : β → Value} {rs' : β → List Res} {as : β → List Atom} {C : Ctx} {w : World}
    (hc : Con P f args rs pre φ post rs' as) (h : St C own ats w) (hp : Pick own rs rest) (ha : Ins pre ats) :
    Calls P f args w fun e w' => ∃ y, φ y ∧ e = .returned (post y) ∧ St C (rs' y ++ rest) (as y ++ ats) w' := by
  have h1 := h.perm hp.perm
  have h2 : Hp (C.M ++ bks rest) rs pre w := by
    have hnd := h1.hp.nd
    rw [bks_append, List.nodup_append] at hnd
    obtain ⟨n1, n2, n3⟩ := hnd
    refine ⟨?_, n1, ?_, fun r hr => h1.hp.has r (List.mem_append_left _ hr), fun A hA => A.sub (h1.hp.ats A (ha.mem A hA)) fun b hb => ?_⟩
    · intro b hb
      rcases List.mem_append.1 hb with hb | hb
      · exact h1.hp.lt b hb
      · exact h1.hp.blt b (by rw [bks_append]; exact List.mem_append_right _ hb)
    · intro b hb hc
      rcases List.mem_append.1 hb with hb | hb
      · exact h1.hp.dj b hb (by rw [bks_append]; exact List.mem_append_left _ hc)
      · exact n3 b hc b hb rfl
    · simp only [bks_append, List.mem_append] at hb ⊢
      rcases hb with (hb | hb) | hb
      · exact .inl hb
      · exact .inr (.inr hb)
      · exact .inr (.inl hb)
  refine (hc _ w h2).mono ?_
  rintro e w' ⟨y, h3, h4, h5, h6, h7⟩
  exact ⟨y, h3, h4, h1.step h5 h6 h7⟩

/-! ### 4. Code -/
def T (P : Program) (n : Nat) (c : Code) (l : LEnv) (C : Ctx) (own : List Res) (ats : List Atom) (Q : Exit → LEnv → World → Prop) : Prop :=
  ∀ w, St C own ats w → cw P n c l w Q

/-- in a drawn region: N is what those need that were told ahead -/
def Wd (P : Program) (ops : Array Oper) (p : Plan) (l : LEnv) (S N : World → Prop) (K : LEnv → World → Prop) : Prop := (∀ w, S w → N w) → W P ops p l S N K

def V (P : Program) (ops : Array Oper) (rest : List Oper) (l : LEnv) (C : Ctx) (own : List Res) (ats : List Atom) (K : LEnv → World → Prop) : Prop :=
  ∀ w, St C own ats w → opsL P ops rest l w K

section
variable {P : Program} {n : Nat} {l : LEnv} {C : Ctx} {own : List Res} {ats : List Atom} {Q : Exit → LEnv → World → Prop} {K : LEnv → World → Prop}

theorem T_seq {x y : Code} (h : T P n x l C own ats (seqQ (fun l w => cw P n y l w Q) Q)) : T P n (.seq x y) l C own ats Q := fun w hw => cw_seq (h w hw)
theorem T_block {id : Nat} {c : Code} (h : T P n c l C own ats (blockQ id Q)) : T P n (.block id c) l C own ats Q := fun w hw => cw_block (h w hw)
theorem T_skip (h : ∀ w, St C own ats w → Q .normal l w) : T P n .skip l C own ats Q := fun w hw => cw_skip (h w hw)
theorem T_exit {id : Nat} (h : ∀ w, St C own ats w → Q (.exit id) l w) : T P n (.exit id) l C own ats Q := fun w hw => cw_exit (h w hw)
theorem T_ret (h : ∀ w, St C own ats w → Q .ret l w) : T P n .ret l C own ats Q := fun w hw => cw_ret (h w hw)
theorem T_cond {c : Operand} {x y : Code} {b : Bool} (hc : opv l c = some (.bool b)) (ht : b = true → T P n x l C own ats Q) (hf : b = false → T P n y l C own ats Q) :
    T P n (.cond c x y) l C own ats Q := fun w hw => cw_cond hc (fun h => ht h w hw) (fun h => hf h w hw)
theorem T_true {c : Operand} {x y : Code} (hc : opv l c = some (.bool true)) (h : T P n x l C own ats Q) : T P n (.cond c x y) l C own ats Q :=
  T_cond hc (fun _ => h) (fun h => by cases h)
theorem T_false {c : Operand} {x y : Code} (hc : opv l c = some (.bool false)) (h : T P n y l C own ats Q) : T P n (.cond c x y) l C own ats Q :=
  T_cond hc (fun h => by cases h) (fun _ => h)
theorem T_reg {id : Nat} {ops : List Oper} (hf : fitsAll n ops = true) (h : V P ops.toArray ops l C own ats (fun l w => Q .normal l w)) : T P n (.region id ops.toArray false) l C own ats Q :=
  fun w hw => cw_region hf (h w hw)
theorem T_drawn {id : Nat} {ops : Array Oper} (hm : P.follows .mixedOrders = true) (p : Plan) (hck : check n ops p false [] [] = true)
    (h : Wd P ops p l (St C own ats) (fun _ => True) (fun l w => Q .normal l w)) : T P n (.region id ops true) l C own ats Q :=
  fun _ hw => cw_drawn hm p hck _ hw.drew (h fun _ _ => trivial)

theorem V_nil {ops : Array Oper} (h : ∀ w, St C own ats w → K l w) : V P ops [] l C own ats K := h
theorem V_next {ops : Array Oper} {y : Code} (e : ∀ w, K l w = cw P n y l w Q) (h : T P n y l C own ats Q) : V P ops [] l C own ats K := fun w hw => by unfold opsL; rw [e w]; exact h w hw

/-- The facts may be put otherwise. -/
theorem T_ghost {c : Code} {own' : List Res} {ats' : List Atom} (h : ∀ w, St C own ats w → St C own' ats' w) (ht : T P n c l C own' ats' Q) : T P n c l C own ats Q := fun w hw => ht w (h w hw)
theorem T_ghostE {c : Code} {α : Type} (own' : α → List Res) (ats' : α → List Atom) (φ : α → Prop) (h : ∀ w, St C own ats w → ∃ x, φ x ∧ St C (own' x) (ats' x) w) (ht : ∀ x, φ x → T P n c l C (own' x) (ats' x) Q) : T P n c l C own ats Q :=
  fun w hw => let ⟨x, h1, h2⟩ := h w hw; ht x h1 w h2
theorem T_pure {c : Code} {φ : Prop} (h : ∀ w, St C own ats w → φ) (ht : φ → T P n c l C own ats Q) : T P n c l C own ats Q := fun w hw => ht (h w hw) w hw
theorem T_mono {c : Code} {Q' : Exit → LEnv → World → Prop} (h : T P n c l C own ats Q') (hq : ∀ e l w, Q' e l w → Q e l w) : T P n c l C own ats Q := fun w hw => cw_mono (h w hw) hq
theorem T_forget {c : Code} {l' : LEnv} (h : T P n c l' C own ats Q) (hl : ∀ t v, lk l' t = some v → lk l t = some v) : T P n c l C own ats Q := fun w hw => cw_forget (h w hw) hl

def Has (l : LEnv) : LEnv → Prop
  | [] => True
  | (t, v) :: L => lk l t = some v ∧ Has l L
theorem Has.sub {L : LEnv} (h : Has l L) : ∀ t v, lk L t = some v → lk l t = some v := by
  induction L with
  | nil => intro t v hv; cases hv
  | cons p L ih =>
    obtain ⟨k, u⟩ := p
    intro t v hv
    rw [lk_cons] at hv
    by_cases e : k = t
    · subst e; rw [if_pos rfl] at hv; injection hv with hv; subst hv; exact h.1
    · rw [if_neg e] at hv; exact ih h.2 t v hv

/-- How ways meet: for some x, the slots of L x, the memory of own x and ats x. -/
def Meet (C : Ctx) {α : Type} (L : α → LEnv) (own : α → List Res) (ats : α → List Atom) (φ : α → Prop) : LEnv → World → Prop :=
  fun l w => ∃ x, φ x ∧ Has l (L x) ∧ St C (own x) (ats x) w

theorem T_cut {x y : Code} {α : Type} (L : α → LEnv) (own' : α → List Res) (ats' : α → List Atom) (φ : α → Prop)
    (h : T P n x l C own ats (seqQ (Meet C L own' ats' φ) Q)) (h2 : ∀ x, φ x → T P n y (L x) C (own' x) (ats' x) Q) : T P n (.seq x y) l C own ats Q := by
  refine T_seq (T_mono h ?_)
  intro e l w hq
  cases e with
  | normal =>
    obtain ⟨x, h3, h4, h5⟩ := hq
    exact cw_forget (h2 x h3 w h5) h4.sub
  | _ => exact hq

theorem T_loop {c : Code} {α : Type} (L : α → LEnv) (own' : α → List Res) (ats' : α → List Atom) (φ : α → Prop) (m : α → Nat) (x₀ : α)
    (h0 : φ x₀) (hl : Has l (L x₀)) (hs : ∀ w, St C own ats w → St C (own' x₀) (ats' x₀) w)
    (round : ∀ x, φ x → T P n c (L x) C (own' x) (ats' x) (seqQ (Meet C L own' ats' (fun x' => m x' < m x ∧ φ x')) Q)) : T P n (.loop c) l C own ats Q := by
  intro w hw
  refine cw_loop (fun x l w => φ x ∧ Has l (L x) ∧ St C (own' x) (ats' x) w) m x₀ ⟨h0, hl, hs w hw⟩ ?_
  rintro x l w ⟨h1, h2, h3⟩
  refine cw_mono (cw_forget (round x h1 w h3) h2.sub) ?_
  intro e l' w' hq
  cases e with
  | normal =>
    obtain ⟨x', ⟨h4, h5⟩, h6, h7⟩ := hq
    exact ⟨x', h4, h5, h6, h7⟩
  | _ => exact hq
end

/-! ### 5. One operation -/
section
variable {P : Program} {l : LEnv} {C : Ctx} {own own' : List Res} {ats ats' : List Atom} {K : LEnv → World → Prop} {o : Oper} {X : Value}

/-- The operation tells X and leaves all as it was. -/
def Qu (P : Program) (o : Oper) (l : LEnv) (S : World → Prop) (X : Value) : Prop := ∀ w, S w → opL P o l (fun v w' => v = X ∧ w' = w) w

/-- It tells, for some y, post y, and leaves memory as own' y, ats' y tell. -/
def Lo (P : Program) (o : Oper) (l : LEnv) (C : Ctx) (own : List Res) (ats : List Atom) {β : Type} (φ : β → Prop) (post : β → Value) (own' : β → List Res) (ats' : β → List Atom) : Prop :=
  ∀ w, St C own ats w → opL P o l (fun v w' => ∃ y, φ y ∧ v = post y ∧ St C (own' y) (ats' y) w') w

theorem V_q {ops : Array Oper} {rest : List Oper} {d : Nat} (h : Qu P o l (St C own ats) X) (hg : o.guard = none) (hd : o.dst = some d)
    (hr : V P ops rest ((d, X) :: l) C own ats K) : V P ops (o :: rest) l C own ats K := by
  intro w hw
  unfold opsL
  have : wantd ops o l = some true := by unfold wantd; rw [hg]
  rw [this]
  refine (h w hw).mono ?_
  rintro v w' ⟨rfl, rfl⟩
  rw [hd]
  exact hr _ hw

theorem V_l {ops : Array Oper} {rest : List Oper} {β : Type} {φ : β → Prop} {post : β → Value} {own' : β → List Res} {ats' : β → List Atom} {d : Nat} (h : Lo P o l C own ats φ post own' ats') (hg : o.guard = none) (hd : o.dst = some d)
    (hr : ∀ y, φ y → V P ops rest ((d, post y) :: l) C (own' y) (ats' y) K) : V P ops (o :: rest) l C own ats K := by
  intro w hw
  unfold opsL
  have : wantd ops o l = some true := by unfold wantd; rw [hg]
  rw [this]
  refine (h w hw).mono ?_
  rintro v w' ⟨y, hy, rfl, hs⟩
  rw [hd]
  exact hr y hy _ hs

theorem V_n {ops : Array Oper} {rest : List Oper} {β : Type} {φ : β → Prop} {post : β → Value} {own' : β → List Res} {ats' : β → List Atom} (h : Lo P o l C own ats φ post own' ats') (hg : o.guard = none) (hd : o.dst = none)
    (hr : ∀ y, φ y → V P ops rest l C (own' y) (ats' y) K) : V P ops (o :: rest) l C own ats K := by
  intro w hw
  unfold opsL
  have : wantd ops o l = some true := by unfold wantd; rw [hg]
  rw [this]
  refine (h w hw).mono ?_
  rintro v w' ⟨y, hy, rfl, hs⟩
  rw [hd]
  exact hr y hy _ hs

/-- The operation is not wanted. -/
theorem V_skip {ops : Array Oper} {rest : List Oper} {d : Nat} (hg : wantd ops o l = some false) (hd : o.dst = some d) (hr : V P ops rest ((d, undef) :: l) C own ats K) : V P ops (o :: rest) l C own ats K := by
  intro w hw
  unfold opsL
  rw [hg, hd]
  exact hr w hw
theorem V_want {ops : Array Oper} {rest : List Oper} {d : Nat} (h : Qu P o l (St C own ats) X) (hg : wantd ops o l = some true) (hd : o.dst = some d)
    (hr : V P ops rest ((d, X) :: l) C own ats K) : V P ops (o :: rest) l C own ats K := by
  intro w hw
  unfold opsL
  rw [hg]
  refine (h w hw).mono ?_
  rintro v w' ⟨rfl, rfl⟩
  rw [hd]
  exact hr _ hw
theorem V_wantl {ops : Array Oper} {rest : List Oper} {β : Type} {φ : β → Prop} {post : β → Value} {own' : β → List Res} {ats' : β → List Atom} {d : Nat} (h : Lo P o l C own ats φ post own' ats') (hg : wantd ops o l = some true) (hd : o.dst = some d)
    (hr : ∀ y, φ y → V P ops rest ((d, post y) :: l) C (own' y) (ats' y) K) : V P ops (o :: rest) l C own ats K := by
  intro w hw
  unfold opsL
  rw [hg]
  refine (h w hw).mono ?_
  rintro v w' ⟨y, hy, rfl, hs⟩
  rw [hd]
  exact hr y hy _ hs

/-! in a drawn region -/
theorem W.anti {P : Program} {ops : Array Oper} {K : LEnv → World → Prop} : ∀ (p : Plan) (l : LEnv) (S S' N : World → Prop), (∀ w, S w → S' w) → W P ops p l S' N K → W P ops p l S N K := by
  intro p
  induction p with
  | fin => intro l S S' N h hw w hS; exact hw w (h w hS)
  | quiet i p ih => intro l S S' N h hw; obtain ⟨o, ho, X, N', h1, h2, h3, h4⟩ := hw; exact ⟨o, ho, X, N', fun w hS => h1 w (h w hS), h2, h3, ih _ _ _ _ h h4⟩
  | pure i p ih => intro l S S' N h hw; obtain ⟨o, ho, X, h3, h4⟩ := hw; exact ⟨o, ho, X, h3, ih _ _ _ _ h h4⟩
  | loud i p _ => intro l S S' N h hw; obtain ⟨o, ho, h3⟩ := hw; exact ⟨o, ho, fun w hS => h3 w (h w hS)⟩
  | bar i p _ => intro l S S' N h hw; obtain ⟨o, ho, h3⟩ := hw; exact ⟨o, ho, fun w hS => h3 w (h w hS)⟩
  | both p q ihp ihq => intro l S S' N h hw; exact ⟨ihp _ _ _ _ h hw.1, ihq _ _ _ _ h hw.2⟩

section
variable {N : World → Prop}
theorem W_fin {ops : Array Oper} (h : ∀ w, St C own ats w → K l w) : Wd P ops .fin l (St C own ats) N K := fun _ => h
theorem W_next {n : Nat} {ops : Array Oper} {y : Code} {Q : Exit → LEnv → World → Prop} (e : ∀ w, K l w = cw P n y l w Q) (h : T P n y l C own ats Q) : Wd P ops .fin l (St C own ats) N K := fun _ w hw => by rw [e w]; exact h w hw

theorem stepL_of {ops : Array Oper} {K' : Value → World → Prop} {w : World} (hg : wantd ops o l = some true) (h : opL P o l K' w) : stepL P ops o l K' w := by
  unfold stepL; rw [hg]; exact h

/-- told ahead; it looks at what the call owns too -/
theorem W_q {ops : Array Oper} {i d : Nat} {p : Plan} (ho : ops[i]? = some o) (h : Qu P o l (St C own ats) X) (hg : wantd ops o l = some true) (hd : o.dst = some d)
    (hr : Wd P ops p ((d, X) :: l) (St C own ats) (fun w => N w ∧ St C own ats w) K) : Wd P ops (.quiet i p) l (St C own ats) N K := fun hN =>
  ⟨o, ho, X, fun w => N w ∧ St C own ats w, fun w h => ⟨hN w h, h⟩, fun _ h => h.1, fun w hw => stepL_of hg (h w hw.2), by rw [hd]; exact hr fun w h => ⟨hN w h, h⟩⟩
/-- told ahead; it looks at what stays alone -/
theorem W_a {ops : Array Oper} {i d : Nat} {p : Plan} (ho : ops[i]? = some o) (h : Qu P o l (St C [] ats) X) (hg : wantd ops o l = some true) (hd : o.dst = some d)
    (hr : Wd P ops p ((d, X) :: l) (St C own ats) (fun w => N w ∧ St C [] ats w) K) : Wd P ops (.quiet i p) l (St C own ats) N K := fun hN =>
  have f : ∀ w, St C own ats w → N w ∧ St C [] ats w := fun w h => ⟨hN w h, h.weak (List.nil_sublist _) fun _ hA => hA⟩
  ⟨o, ho, X, fun w => N w ∧ St C [] ats w, f, fun _ h => h.1, fun w hw => stepL_of hg (h w hw.2), by rw [hd]; exact hr f⟩
theorem W_p {ops : Array Oper} {i d : Nat} {p : Plan} {S : World → Prop} (ho : ops[i]? = some o) (h : Qu P o l (fun _ => True) X) (hg : wantd ops o l = some true) (hd : o.dst = some d)
    (hr : Wd P ops p ((d, X) :: l) S N K) : Wd P ops (.pure i p) l S N K := fun hN =>
  ⟨o, ho, X, fun w => stepL_of hg (h w trivial), by rw [hd]; exact hr hN⟩
theorem W_pskip {ops : Array Oper} {i d : Nat} {p : Plan} {S : World → Prop} (ho : ops[i]? = some o) (hg : wantd ops o l = some false) (hd : o.dst = some d)
    (hr : Wd P ops p ((d, undef) :: l) S N K) : Wd P ops (.pure i p) l S N K := fun hN =>
  ⟨o, ho, undef, fun w => by unfold stepL; rw [hg]; exact ⟨rfl, rfl⟩, by rw [hd]; exact hr hN⟩
theorem W_quietskip {ops : Array Oper} {i d : Nat} {p : Plan} {S : World → Prop} (ho : ops[i]? = some o) (hg : wantd ops o l = some false) (hd : o.dst = some d)
    (hr : Wd P ops p ((d, undef) :: l) S N K) : Wd P ops (.quiet i p) l S N K := fun hN =>
  ⟨o, ho, undef, N, hN, fun _ h => h, fun w _ => by unfold stepL; rw [hg]; exact ⟨rfl, rfl⟩, by rw [hd]; exact hr hN⟩
theorem W_loudskip {ops : Array Oper} {i d : Nat} {p : Plan} {S : World → Prop} (ho : ops[i]? = some o) (hg : wantd ops o l = some false) (hd : o.dst = some d)
    (hr : Wd P ops p ((d, undef) :: l) S N K) : Wd P ops (.loud i p) l S N K := fun hN =>
  ⟨o, ho, fun w hS => by unfold stepL; rw [hg]; exact ⟨S, hN, hS, by rw [hd]; exact hr hN⟩⟩
theorem W_barskip {ops : Array Oper} {i d : Nat} {p : Plan} {S : World → Prop} (ho : ops[i]? = some o) (hg : wantd ops o l = some false) (hd : o.dst = some d)
    (hr : Wd P ops p ((d, undef) :: l) S (fun _ => True) K) : Wd P ops (.bar i p) l S N K := fun _ =>
  ⟨o, ho, fun w hS => by unfold stepL; rw [hg]; exact ⟨S, hS, by rw [hd]; exact hr fun _ _ => trivial⟩⟩

/-- What those need that were told ahead stays. -/
theorem W_l {ops : Array Oper} {i d : Nat} {p : Plan} {β : Type} {φ : β → Prop} {post : β → Value} {own' : β → List Res} {ats' : β → List Atom} (ho : ops[i]? = some o) (h : Lo P o l C own ats φ post own' ats')
    (hmono : ∀ y w, St C (own' y) (ats' y) w → N w) (hg : wantd ops o l = some true) (hd : o.dst = some d)
    (hr : ∀ y, φ y → Wd P ops p ((d, post y) :: l) (St C (own' y) (ats' y)) N K) : Wd P ops (.loud i p) l (St C own ats) N K := by
  refine fun _ => ⟨o, ho, fun w hw => stepL_of hg ((h w hw).mono ?_)⟩
  rintro v w' ⟨y, hy, rfl, hs⟩
  exact ⟨_, hmono y, hs, by rw [hd]; exact hr y hy (hmono y)⟩
theorem W_ln {ops : Array Oper} {i : Nat} {p : Plan} {β : Type} {φ : β → Prop} {post : β → Value} {own' : β → List Res} {ats' : β → List Atom} (ho : ops[i]? = some o) (h : Lo P o l C own ats φ post own' ats')
    (hmono : ∀ y w, St C (own' y) (ats' y) w → N w) (hg : wantd ops o l = some true) (hd : o.dst = none)
    (hr : ∀ y, φ y → Wd P ops p l (St C (own' y) (ats' y)) N K) : Wd P ops (.loud i p) l (St C own ats) N K := by
  refine fun _ => ⟨o, ho, fun w hw => stepL_of hg ((h w hw).mono ?_)⟩
  rintro v w' ⟨y, hy, rfl, hs⟩
  exact ⟨_, hmono y, hs, by rw [hd]; exact hr y hy (hmono y)⟩
theorem W_b {ops : Array Oper} {i d : Nat} {p : Plan} {β : Type} {φ : β → Prop} {post : β → Value} {own' : β → List Res} {ats' : β → List Atom} (ho : ops[i]? = some o) (h : Lo P o l C own ats φ post own' ats')
    (hg : wantd ops o l = some true) (hd : o.dst = some d)
    (hr : ∀ y, φ y → Wd P ops p ((d, post y) :: l) (St C (own' y) (ats' y)) (fun _ => True) K) : Wd P ops (.bar i p) l (St C own ats) N K := by
  refine fun _ => ⟨o, ho, fun w hw => stepL_of hg ((h w hw).mono ?_)⟩
  rintro v w' ⟨y, hy, rfl, hs⟩
  exact ⟨_, hs, by rw [hd]; exact hr y hy fun _ _ => trivial⟩
theorem W_bn {ops : Array Oper} {i : Nat} {p : Plan} {β : Type} {φ : β → Prop} {post : β → Value} {own' : β → List Res} {ats' : β → List Atom} (ho : ops[i]? = some o) (h : Lo P o l C own ats φ post own' ats')
    (hg : wantd ops o l = some true) (hd : o.dst = none)
    (hr : ∀ y, φ y → Wd P ops p l (St C (own' y) (ats' y)) (fun _ => True) K) : Wd P ops (.bar i p) l (St C own ats) N K := by
  refine fun _ => ⟨o, ho, fun w hw => stepL_of hg ((h w hw).mono ?_)⟩
  rintro v w' ⟨y, hy, rfl, hs⟩
  exact ⟨_, hs, by rw [hd]; exact hr y hy fun _ _ => trivial⟩
theorem W_both {ops : Array Oper} {p q : Plan} {S : World → Prop} (h1 : Wd P ops p l S N K) (h2 : Wd P ops q l S N K) : Wd P ops (.both p q) l S N K := fun hN => ⟨h1 hN, h2 hN⟩
theorem W_ghost {ops : Array Oper} {p : Plan} {own' : List Res} (h : ∀ w, St C own ats w → St C own' ats' w) (hN : ∀ w, St C own' ats' w → N w) (hr : Wd P ops p l (St C own' ats') N K) : Wd P ops p l (St C own ats) N K :=
  fun _ => W.anti _ _ _ _ _ h (hr hN)
end
end

/-! ### 6. A function -/
/-- What the slots of the results hold. -/
def resL (P : Program) (rs : Array ResultVar) (l : LEnv) (w : World) (v : Value) : Prop :=
  ∀ a : Act, Ag a l → ∀ fn : Func, fn.results = rs → (results fn a.tmps).run P w = .ok v w

def retQ (P : Program) (rs : Array ResultVar) (R : Ending → World → Prop) : Exit → LEnv → World → Prop
  | .ret, l, w => ∃ v, resL P rs l w v ∧ R (.returned v) w
  | .normal, l, w => ∃ v, resL P rs l w v ∧ R (.returned v) w
  | _, _, _ => False

def startL (k : Nat) : List Value → LEnv
  | [] => []
  | v :: r => (k, v) :: startL (k + 1) r

theorem lk_start : ∀ (r : List Value) (k t : Nat) (v : Value), lk (startL k r) t = some v → k ≤ t ∧ r[t - k]? = some v
  | [], k, t, v, h => by cases h
  | u :: r, k, t, v, h => by
    rw [startL, lk_cons] at h
    by_cases e : k = t
    · subst e; rw [if_pos rfl] at h; exact ⟨Nat.le_refl _, by simpa using h⟩
    · rw [if_neg e] at h
      have := lk_start r (k + 1) t v h
      refine ⟨by omega, ?_⟩
      have e2 : t - k = (t - (k + 1)) + 1 := by omega
      rw [e2, List.getElem?_cons_succ]
      exact this.2

theorem con_of {P : Program} {f : FuncId} {fn : Func} {c : Code} {n : Nat} {args : List Value} {rs : List Res} {pre : List Atom} {β : Type} {φ : β → Prop} {post : β → Value} {rs' : β → List Res} {as : β → List Atom} {res : Array ResultVar}
    (hf : P.funcs[f]? = some fn) (hb : fn.body = some c) (hn : fn.ntmps = n) (hres : fn.results = res) (hle : args.length ≤ n)
    (h : ∀ C : Ctx, C.M1 = bks rs → T P n c (startL 0 args) C rs pre (retQ P res fun e w => ∃ y, φ y ∧ e = .returned (post y) ∧ St C (rs' y) (as y) w)) :
    Con P f args.toArray rs pre φ post rs' as := by
  intro M w hp
  refine calls_of_wp hf hb ?_
  have hst : St ⟨M, bks rs, w⟩ rs pre w := ⟨hp, Kept.refl _ _, fun b hb => .inl hb⟩
  have ho : Ok n { tmps := args.toArray ++ Array.replicate (fn.ntmps - args.toArray.size) undef, defers := [] } := ⟨by simp [hn]; omega, rfl⟩
  refine wp_mono (h ⟨M, bks rs, w⟩ rfl w hst _ ho ?_) ?_
  · intro t v hv
    obtain ⟨_, h2⟩ := lk_start args 0 t v hv
    rw [Array.getD_eq_getD_getElem?]
    have h3 : t < args.length := by
      rcases Nat.lt_or_ge t args.length with h | h
      · exact h
      · rw [Nat.sub_zero, List.getElem?_eq_none h] at h2; cases h2
    rw [Array.getElem?_append_left (by simpa using h3)]
    simp only [Nat.sub_zero] at h2
    simp [h2]
  · rintro e a w' ⟨h1, l', h2, h3⟩
    have fin : ∀ v, resL P res l' w' v → (∃ y, φ y ∧ Ending.returned v = .returned (post y) ∧ St ⟨M, bks rs, w⟩ (rs' y) (as y) w') →
        ∃ v, (results fn a.tmps).run P w' = .ok v w' ∧ ∃ y, φ y ∧ Ending.returned v = .returned (post y) ∧ Kept (bks rs) w w' ∧ Hp M (rs' y) (as y) w' ∧ ∀ b ∈ bks (rs' y), b ∈ bks rs ∨ w.heap.size ≤ b :=
      fun v hv ⟨y, h4, h5, h6⟩ => ⟨v, hv a h2 fn hres, y, h4, h5, h6.kept, h6.hp, h6.mine⟩
    cases e with
    | ret => obtain ⟨v, hv, hR⟩ := h3; exact ⟨h1.defers, fin v hv hR⟩
    | normal => obtain ⟨v, hv, hR⟩ := h3; exact ⟨h1.defers, fin v hv hR⟩
    | exit id => exact h3.elim
    | goto id => exact h3.elim
    | panic ch => exact h3.elim
    | outgrown => exact h3.elim
end Go.Proofs.YtgbhegmhbeekpaaGreat
