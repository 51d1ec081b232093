/-
  A region whose order is drawn: one walk along a plan serves every order that the region's edges allow.
-/
import Derived.Test.YtgbhegmhbeekpaaGreatFr

namespace Go.Proofs.YtgbhegmhbeekpaaGreat
open Go

inductive Plan where
  | fin
  | quiet (i : Nat) (p : Plan)
  | pure (i : Nat) (p : Plan)
  | loud (i : Nat) (p : Plan)
  | bar (i : Nat) (p : Plan)
  | both (p q : Plan)

def preOf (ops : Array Oper) (i : Nat) : List Nat :=
  match ops[i]? with
  | some o => (o.after.toList.filter (Region.binds .any)).map (·.on)
  | none => []

def dstOf (ops : Array Oper) (i : Nat) : Option Tmp := (ops[i]?).bind (·.dst)

def isSel : Op → Bool
  | .select _ _ => true
  | _ => false

def looks (ops : Array Oper) (o : Oper) : List Nat :=
  (o.op.operands.toList.filterMap fun | .tmp t => some t | _ => none) ++
  (match o.guard with
   | some (g, _) => (dstOf ops g).toList
   | none => [])

/-- Operation i may come next behind those of D; whoever else writes what it looks at stands ahead of it or behind it; no one else writes its slot. -/
def stepc (n : Nat) (ops : Array Oper) (i : Nat) (D : List Nat) : Bool :=
  match ops[i]? with
  | none => false
  | some o => !D.contains i && (preOf ops i).all D.contains && !isSel o.op && dstFits n o.dst &&
      (looks ops o).all (fun t => (List.range ops.size).all fun j => !(dstOf ops j == some t) || Nat.beq j i || (preOf ops i).contains j || (preOf ops j).contains i) &&
      (match o.dst with
       | none => true
       | some d => (List.range ops.size).all fun j => Nat.beq j i || !(dstOf ops j == some d))

def heads : Plan → List Nat
  | .loud i _ => [i]
  | .bar i _ => [i]
  | .both p q => heads p ++ heads q
  | _ => []

def avail (ops : Array Oper) (D hs : List Nat) : Bool :=
  (List.range ops.size).all fun j => D.contains j || !(preOf ops j).all D.contains || hs.contains j

def check (n : Nat) (ops : Array Oper) : Plan → Bool → List Nat → List Nat → Bool
  | .fin, alt, D, _ => !alt && (List.range ops.size).all D.contains
  | .quiet i p, alt, D, T => !alt && stepc n ops i D && check n ops p false (i :: D) (i :: T)
  | .pure i p, alt, D, T => !alt && stepc n ops i D && check n ops p false (i :: D) T
  | .loud i p, alt, D, T => (alt || avail ops D [i]) && stepc n ops i D && check n ops p false (i :: D) T
  | .bar i p, alt, D, T => (alt || avail ops D [i]) && stepc n ops i D && T.all (preOf ops i).contains && check n ops p false (i :: D) []
  | .both p q, alt, D, T => (alt || avail ops D (heads (.both p q))) && check n ops p true D T && check n ops q true D T

def stepL (P : Program) (ops : Array Oper) (o : Oper) (l : LEnv) (K : Value → World → Prop) (w : World) : Prop :=
  match wantd ops o l with
  | some true => opL P o l K w
  | some false => K undef w
  | none => False

/-- S: what is known of memory; N: what those need that were told ahead and may still come up. -/
def W (P : Program) (ops : Array Oper) : Plan → LEnv → (World → Prop) → (World → Prop) → (LEnv → World → Prop) → Prop
  | .fin, l, S, _, Q => ∀ w, S w → Q l w
  | .quiet i p, l, S, N, Q => ∃ o, ops[i]? = some o ∧ ∃ X, ∃ N' : World → Prop, (∀ w, S w → N' w) ∧ (∀ w, N' w → N w) ∧ (∀ w, N' w → stepL P ops o l (fun v w' => v = X ∧ w' = w) w) ∧ W P ops p (pushd l o.dst X) S N' Q
  | .pure i p, l, S, N, Q => ∃ o, ops[i]? = some o ∧ ∃ X, (∀ w, stepL P ops o l (fun v w' => v = X ∧ w' = w) w) ∧ W P ops p (pushd l o.dst X) S N Q
  | .loud i p, l, S, N, Q => ∃ o, ops[i]? = some o ∧ ∀ w, S w → stepL P ops o l (fun v w' => ∃ S' : World → Prop, (∀ w, S' w → N w) ∧ S' w' ∧ W P ops p (pushd l o.dst v) S' N Q) w
  | .bar i p, l, S, _, Q => ∃ o, ops[i]? = some o ∧ ∀ w, S w → stepL P ops o l (fun v w' => ∃ S' : World → Prop, S' w' ∧ W P ops p (pushd l o.dst v) S' (fun _ => True) Q) w
  | .both p q, l, S, N, Q => W P ops p l S N Q ∧ W P ops q l S N Q

section
variable {P : Program} {n : Nat} {ops : Array Oper} {Q : LEnv → World → Prop} {R : Exit → LEnv → World → Prop}

theorem mem_pre {i j : Nat} {o : Oper} (ho : ops[i]? = some o) : j ∈ preOf ops i ↔ ∃ e ∈ o.after.toList, Region.binds .any e = true ∧ e.on = j := by
  unfold preOf
  rw [ho]
  simp [List.mem_map, List.mem_filter, and_assoc]

theorem mem_ready {listed : Array Bool} {i : Nat} : i ∈ Region.ready .any ops listed ↔ i < ops.size ∧ listed.getD i true = false ∧ ∀ j ∈ preOf ops i, listed.getD j false = true := by
  unfold Region.ready
  rw [List.mem_filter, List.mem_range]
  constructor
  · rintro ⟨h1, h2⟩
    have ho : ops[i]? = some ops[i] := Array.getElem?_eq_getElem h1
    simp only [ho, Option.map_some, Option.getD_some, Bool.and_eq_true, Bool.not_eq_true'] at h2
    refine ⟨h1, h2.1, fun j hj => ?_⟩
    obtain ⟨e, he, hb, rfl⟩ := (mem_pre ho).1 hj
    have := Array.all_eq_true_iff_forall_mem.1 h2.2 e (by simpa using he)
    simpa [hb] using this
  · rintro ⟨h1, h2, h3⟩
    have ho : ops[i]? = some ops[i] := Array.getElem?_eq_getElem h1
    refine ⟨h1, ?_⟩
    simp only [ho, Option.map_some, Option.getD_some, Bool.and_eq_true, Bool.not_eq_true']
    refine ⟨h2, Array.all_eq_true_iff_forall_mem.2 fun e he => ?_⟩
    cases hb : Region.binds .any e
    · simp
    · simpa using h3 e.on ((mem_pre ho).2 ⟨e, by simpa using he, hb, rfl⟩)

structure StepC (n : Nat) (ops : Array Oper) (i : Nat) (D : List Nat) (o : Oper) : Prop where
  get : ops[i]? = some o
  new : i ∉ D
  pre : ∀ j ∈ preOf ops i, j ∈ D
  sel : ∀ cs b, o.op ≠ .select cs b
  fits : dstFits n o.dst = true
  look : ∀ t ∈ looks ops o, ∀ j, dstOf ops j = some t → j = i ∨ j ∈ preOf ops i ∨ i ∈ preOf ops j
  one : ∀ d, o.dst = some d → ∀ j, dstOf ops j = some d → j = i

theorem dstOf_lt {j t : Nat} (h : dstOf ops j = some t) : j < ops.size := by
  unfold dstOf at h
  rcases Nat.lt_or_ge j ops.size with h1 | h1
  · exact h1
  · rw [Array.getElem?_eq_none h1] at h; cases h

theorem stepC_of {i : Nat} {D : List Nat} (h : stepc n ops i D = true) : ∃ o, StepC n ops i D o := by
  unfold stepc at h
  cases ho : ops[i]? with
  | none => rw [ho] at h; cases h
  | some o =>
    rw [ho] at h
    simp only [Bool.and_eq_true, Bool.not_eq_true', List.all_eq_true, Bool.or_eq_true, List.mem_range] at h
    obtain ⟨⟨⟨⟨⟨h1, h2⟩, h3⟩, h4⟩, h5⟩, h6⟩ := h
    refine ⟨o, ho, by simpa using h1, fun j hj => by simpa using h2 j hj, ?_, h4, ?_, ?_⟩
    · intro cs b e
      rw [e] at h3
      cases h3
    · intro t ht j hj
      rcases h5 t ht j (dstOf_lt hj) with ((h | h) | h) | h
      · simp [hj] at h
      · exact .inl (Nat.eq_of_beq_eq_true h)
      · exact .inr (.inl (by simpa using h))
      · exact .inr (.inr (by simpa using h))
    · intro d hd j hj
      rw [hd] at h6
      simp only [List.all_eq_true, List.mem_range, Bool.or_eq_true, Bool.not_eq_true'] at h6
      rcases h6 j (dstOf_lt hj) with h | h
      · exact Nat.eq_of_beq_eq_true h
      · simp [hj] at h

/-- Each stands behind all that it waits for. -/
def Cl (ops : Array Oper) : List Nat → Prop
  | [] => True
  | i :: D => (∀ j ∈ preOf ops i, j ∈ D) ∧ i ∉ D ∧ i < ops.size ∧ Cl ops D

theorem Cl.closed : ∀ {D : List Nat}, Cl ops D → ∀ i ∈ D, ∀ j ∈ preOf ops i, j ∈ D
  | i :: D, h, k, hk, j, hj => by
    rcases List.mem_cons.1 hk with rfl | hk
    · exact List.mem_cons_of_mem _ (h.1 j hj)
    · exact List.mem_cons_of_mem _ (h.2.2.2.closed k hk j hj)

theorem Cl.lt : ∀ {D : List Nat}, Cl ops D → ∀ i ∈ D, i < ops.size
  | i :: D, h, k, hk => by
    rcases List.mem_cons.1 hk with rfl | hk
    · exact h.2.2.1
    · exact h.2.2.2.lt k hk

/-- What the list knows: what those of D have told, else what was known. -/
def LW (ops : Array Oper) (l₀ : LEnv) (vals : Nat → Value) (D : List Nat) (l : LEnv) : Prop :=
  ∀ t v, lk l t = some v → (∃ j ∈ D, dstOf ops j = some t ∧ vals j = v) ∨ (lk l₀ t = some v ∧ ∀ j ∈ D, dstOf ops j ≠ some t)

def setv (vals : Nat → Value) (i : Nat) (v : Value) : Nat → Value := fun j => if j = i then v else vals j

theorem LW.push {l₀ : LEnv} {vals : Nat → Value} {D : List Nat} {l : LEnv} (h : LW ops l₀ vals D l) {i : Nat} {o : Oper} (hc : StepC n ops i D o) (v : Value) :
    LW ops l₀ (setv vals i v) (i :: D) (pushd l o.dst v) := by
  intro t u hu
  have old : ∀ j ∈ D, setv vals i v j = vals j := fun j hj => by
    unfold setv
    exact if_neg (fun e : j = i => hc.new (e ▸ hj))
  have di : dstOf ops i = o.dst := by unfold dstOf; rw [hc.get]; rfl
  have base : lk l t = some u → o.dst ≠ some t → (∃ j ∈ i :: D, dstOf ops j = some t ∧ setv vals i v j = u) ∨ (lk l₀ t = some u ∧ ∀ j ∈ i :: D, dstOf ops j ≠ some t) := by
    intro hl hne
    rcases h t u hl with ⟨j, hj, h1, h2⟩ | ⟨h1, h2⟩
    · exact .inl ⟨j, List.mem_cons_of_mem _ hj, h1, (old j hj).trans h2⟩
    · refine .inr ⟨h1, fun j hj => ?_⟩
      rcases List.mem_cons.1 hj with rfl | hj
      · rw [di]; exact hne
      · exact h2 j hj
  cases hd : o.dst with
  | none => rw [hd] at hu; exact base hu (by rw [hd]; simp)
  | some d =>
    rw [hd] at hu
    simp only [pushd, lk_cons] at hu
    by_cases e : d = t
    · subst e
      rw [if_pos rfl] at hu
      injection hu with hu
      exact .inl ⟨i, List.mem_cons_self .., by rw [di, hd], by simp [setv, hu]⟩
    · rw [if_neg e] at hu
      exact base hu (by rw [hd]; simpa using e)

theorem LW.other {l₀ : LEnv} {vals : Nat → Value} {D : List Nat} {l : LEnv} (h : LW ops l₀ vals D l) {i : Nat} (hi : i ∉ D) (v : Value) : LW ops l₀ (setv vals i v) D l := by
  intro t u hu
  rcases h t u hu with ⟨j, hj, h1, h2⟩ | h1
  · refine .inl ⟨j, hj, h1, ?_⟩
    unfold setv
    rw [if_neg (fun e : j = i => hi (e ▸ hj))]
    exact h2
  · exact .inr h1

/-- How the frame lies: those that have come up have told what they tell, all else is as it was. -/
structure Fr (n : Nat) (ops : Array Oper) (l₀ : LEnv) (vals : Nat → Value) (E : Nat → Prop) (a : Act) : Prop where
  ok : Ok n a
  told : ∀ j, E j → ∀ d, dstOf ops j = some d → a.tmps.getD d undef = vals j
  rest : ∀ t v, lk l₀ t = some v → (∀ j, E j → dstOf ops j ≠ some t) → a.tmps.getD t undef = v

theorem Fr.get {l₀ : LEnv} {vals : Nat → Value} {E : Nat → Prop} {a : Act} (hf : Fr n ops l₀ vals E a) {i : Nat} {D : List Nat} {o : Oper} {l : LEnv} (hcl : Cl ops D) (hc : StepC n ops i D o)
    (hl : LW ops l₀ vals D l) (hE : ∀ j, E j → ∀ k ∈ preOf ops j, E k) (hi : ¬ E i) (hpre : ∀ j ∈ preOf ops i, E j) {t : Nat} (ht : t ∈ looks ops o) {v : Value} (hv : lk l t = some v) : a.tmps.getD t undef = v := by
  rcases hl t v hv with ⟨k, hk, hd, rfl⟩ | ⟨h1, h2⟩
  · rcases hc.look t ht k hd with rfl | h | h
    · exact absurd hk hc.new
    · exact hf.told k (hpre k h) t hd
    · exact absurd (hcl.closed k hk i h) hc.new
  · refine hf.rest t v h1 fun k hk hd => ?_
    rcases hc.look t ht k hd with rfl | h | h
    · exact hi hk
    · exact h2 k (hc.pre k h) hd
    · exact hi (hE k hk i h)

theorem step_wpOp {a : Act} {o : Oper} {i : Nat} {l : LEnv} {w : World} {K : Value → World → Prop} {Q' : Exit → Act → World → Prop} (ho : ops[i]? = some o) (hs : ∀ cs b, o.op ≠ .select cs b)
    (hg : ∀ t ∈ looks ops o, ∀ v, lk l t = some v → a.tmps.getD t undef = v) (h : stepL P ops o l K w) :
    wpOp P ops Q' i (fun a' w' => ∃ v, a' = a.put o.dst v ∧ K v w') a w := by
  unfold wpOp
  rw [ho]
  unfold stepL at h
  cases hw : wantd ops o l with
  | none => rw [hw] at h; exact h.elim
  | some b =>
    have hwd := wanted_of hw a (fun g want d v hgd hd hv => by
      obtain ⟨c, rfl⟩ := wantd_bool hw hgd hd hv
      have h1 := hg d (by
        unfold looks
        rw [hgd]
        refine List.mem_append_right _ ?_
        show d ∈ (dstOf ops g).toList
        have : dstOf ops g = some d := hd
        rw [this]
        exact List.mem_cons_self ..) _ hv
      rw [Array.getD_eq_getD_getElem?] at h1
      cases h2 : a.tmps[d]? with
      | none => rw [h2] at h1; cases h1
      | some v => rw [h2] at h1; simpa using h1)
    simp only [hwd]
    rw [hw] at h
    cases b with
    | true =>
      simp only [if_true]
      refine .inl (oper_wp_of_upE (upE_mono (h.local hs a.eval ?_) fun v w' hK => ⟨v, rfl, hK⟩))
      intro x hx v hv
      cases x with
      | tmp t => exact hg t (by unfold looks; exact List.mem_append_left _ (List.mem_filterMap.2 ⟨.tmp t, by simpa using hx, rfl⟩)) v hv
      | _ => simp only [opv] at hv; injection hv with hv; try exact hv
    | false => exact ⟨undef, rfl, h⟩

theorem Fr.step {l₀ : LEnv} {vals : Nat → Value} {E : Nat → Prop} {a : Act} (hf : Fr n ops l₀ vals E a) {i : Nat} {D : List Nat} {o : Oper} (hc : StepC n ops i D o) (hi : ¬ E i) :
    Fr n ops l₀ vals (fun j => j = i ∨ E j) (a.put o.dst (vals i)) := by
  have di : dstOf ops i = o.dst := by unfold dstOf; rw [hc.get]; rfl
  refine ⟨hf.ok.put _ _, ?_, ?_⟩
  · intro j hj d hd
    cases hod : o.dst with
    | none =>
      rcases hj with rfl | hj
      · rw [di, hod] at hd; cases hd
      · exact hf.told j hj d hd
    | some e =>
      have hlt : e < n := by have := hc.fits; rw [hod] at this; exact Nat.le_of_ble_eq_true this
      rw [put_get hf.ok hlt]
      by_cases hed : e = d
      · subst hed
        rw [if_pos rfl, hc.one e hod j hd]
      · rw [if_neg hed]
        rcases hj with rfl | hj
        · rw [di, hod] at hd; injection hd with hd; exact absurd hd hed
        · exact hf.told j hj d hd
  · intro t v hv hne
    cases hod : o.dst with
    | none => exact hf.rest t v hv fun j hj => hne j (.inr hj)
    | some e =>
      have hlt : e < n := by have := hc.fits; rw [hod] at this; exact Nat.le_of_ble_eq_true this
      rw [put_get hf.ok hlt, if_neg (fun h => hne i (.inl rfl) (by rw [di, hod, h]))]
      exact hf.rest t v hv fun j hj => hne j (.inr hj)

/-- The state of a run through the region, beside the walk's. -/
structure St0 (P : Program) (n : Nat) (ops : Array Oper) (l₀ : LEnv) (vals : Nat → Value) (E : Nat → Prop) (D T : List Nat) (l : LEnv) (S : World → Prop) (a : Act) : Prop where
  fr : Fr n ops l₀ vals E a
  cl : Cl ops D
  sub : ∀ j, E j → j ∈ D
  closed : ∀ j, E j → ∀ k ∈ preOf ops j, E k
  lw : LW ops l₀ vals D l
  pend : ∀ j ∈ D, ¬ E j → ∃ o lj Dj, Cl ops Dj ∧ StepC n ops j Dj o ∧ LW ops l₀ vals Dj lj ∧ (∀ k ∈ Dj, k ∈ D) ∧
    ((∀ w, stepL P ops o lj (fun v w' => v = vals j ∧ w' = w) w) ∨ (j ∈ T ∧ ∀ w, S w → stepL P ops o lj (fun v w' => v = vals j ∧ w' = w) w))

def stuck : Plan → Bool
  | .quiet _ _ => false
  | .pure _ _ => false
  | _ => true

theorem St0.advance {l₀ : LEnv} {E : Nat → Prop} {S : World → Prop} {a : Act} : ∀ (p : Plan) (vals : Nat → Value) (D T : List Nat) (l : LEnv) (N : World → Prop),
    (∀ w, S w → N w) → St0 P n ops l₀ vals E D T l N a → check n ops p false D T = true → W P ops p l S N Q →
    ∃ p' vals' D' T' l' N', stuck p' = true ∧ (∀ w, S w → N' w) ∧ St0 P n ops l₀ vals' E D' T' l' N' a ∧ check n ops p' false D' T' = true ∧ W P ops p' l' S N' Q := by
  have key : ∀ (i : Nat) (vals : Nat → Value) (D T T' : List Nat) (l : LEnv) (o : Oper) (X : Value) (N N' : World → Prop), (∀ w, N' w → N w) → St0 P n ops l₀ vals E D T l N a → StepC n ops i D o → (∀ j ∈ T, j ∈ T') →
      ((∀ w, stepL P ops o l (fun v w' => v = X ∧ w' = w) w) ∨ (i ∈ T' ∧ ∀ w, N' w → stepL P ops o l (fun v w' => v = X ∧ w' = w) w)) →
      St0 P n ops l₀ (setv vals i X) E (i :: D) T' (pushd l o.dst X) N' a := by
    intro i vals D T T' l o X N N' hNN h hc hT hq
    have hiE : ¬ E i := fun he => hc.new (h.sub i he)
    have hlt : i < ops.size := (Array.getElem?_eq_some_iff.1 hc.get).1
    have old : ∀ j, j ≠ i → setv vals i X j = vals j := fun j hj => if_neg hj
    refine ⟨⟨h.fr.ok, fun j hj d hd => ?_, h.fr.rest⟩, ⟨hc.pre, hc.new, hlt, h.cl⟩, fun j hj => List.mem_cons_of_mem _ (h.sub j hj), h.closed, h.lw.push hc X, ?_⟩
    · rw [old j (fun e => hiE (e ▸ hj))]; exact h.fr.told j hj d hd
    · intro j hj hjE
      rcases List.mem_cons.1 hj with rfl | hj
      · exact ⟨o, l, D, h.cl, hc, h.lw.other hc.new X, fun k hk => List.mem_cons_of_mem _ hk, by simpa [setv] using hq⟩
      · obtain ⟨o', lj, Dj, h1, h2, h3, h4, h5⟩ := h.pend j hj hjE
        have hji : j ≠ i := fun e => hc.new (e ▸ hj)
        refine ⟨o', lj, Dj, h1, h2, h3.other (fun hi => hc.new (h4 i hi)) X, fun k hk => List.mem_cons_of_mem _ (h4 k hk), ?_⟩
        rw [old j hji]
        rcases h5 with h5 | ⟨h5, h6⟩
        · exact .inl h5
        · exact .inr ⟨hT j h5, fun w hw => h6 w (hNN w hw)⟩
  intro p
  induction p with
  | quiet i p ih =>
    intro vals D T l N hSN h hck hw
    simp only [check, Bool.and_eq_true] at hck
    obtain ⟨⟨_, h1⟩, h2⟩ := hck
    obtain ⟨o, hc⟩ := stepC_of h1
    obtain ⟨o', ho', X, N', hS', hNN, hq, hw'⟩ := hw
    have : o' = o := by rw [hc.get] at ho'; injection ho' with e; exact e.symm
    subst this
    exact ih _ _ _ _ N' hS' (key i vals D T (i :: T) l o' X N N' hNN h hc (fun j hj => List.mem_cons_of_mem _ hj) (.inr ⟨List.mem_cons_self .., hq⟩)) h2 hw'
  | pure i p ih =>
    intro vals D T l N hSN h hck hw
    simp only [check, Bool.and_eq_true] at hck
    obtain ⟨⟨_, h1⟩, h2⟩ := hck
    obtain ⟨o, hc⟩ := stepC_of h1
    obtain ⟨o', ho', X, hq, hw'⟩ := hw
    have : o' = o := by rw [hc.get] at ho'; injection ho' with e; exact e.symm
    subst this
    exact ih _ _ _ _ N hSN (key i vals D T T l o' X N N (fun _ h => h) h hc (fun _ hj => hj) (.inl hq)) h2 hw'
  | fin => intro vals D T l N hSN h hck hw; exact ⟨_, vals, D, T, l, N, rfl, hSN, h, hck, hw⟩
  | loud i p _ => intro vals D T l N hSN h hck hw; exact ⟨_, vals, D, T, l, N, rfl, hSN, h, hck, hw⟩
  | bar i p _ => intro vals D T l N hSN h hck hw; exact ⟨_, vals, D, T, l, N, rfl, hSN, h, hck, hw⟩
  | both p q _ _ => intro vals D T l N hSN h hck hw; exact ⟨_, vals, D, T, l, N, rfl, hSN, h, hck, hw⟩

/-- Some head of a stuck plan may come up. -/
theorem head_ready {D T : List Nat} : ∀ (p : Plan), stuck p = true → p ≠ .fin → ∀ alt, check n ops p alt D T = true → ∃ i, i ∉ D ∧ i < ops.size ∧ ∀ j ∈ preOf ops i, j ∈ D := by
  intro p
  induction p with
  | fin => intro _ h; exact absurd rfl h
  | quiet i p _ => intro h; cases h
  | pure i p _ => intro h; cases h
  | loud i p _ =>
    intro _ _ alt h
    simp only [check, Bool.and_eq_true] at h
    obtain ⟨o, hc⟩ := stepC_of h.1.2
    exact ⟨i, hc.new, (Array.getElem?_eq_some_iff.1 hc.get).1, hc.pre⟩
  | bar i p _ =>
    intro _ _ alt h
    simp only [check, Bool.and_eq_true] at h
    obtain ⟨o, hc⟩ := stepC_of h.1.1.2
    exact ⟨i, hc.new, (Array.getElem?_eq_some_iff.1 hc.get).1, hc.pre⟩
  | both p q ihp _ =>
    intro _ _ alt h
    simp only [check, Bool.and_eq_true] at h
    cases p with
    | fin => simp [check] at h
    | quiet i p => simp [check] at h
    | pure i p => simp [check] at h
    | loud i p => exact ihp rfl (by simp) true h.1.2
    | bar i p => exact ihp rfl (by simp) true h.1.2
    | both p p' => exact ihp rfl (by simp) true h.1.2

/-- What stands ready and is none of those that the walk has met is a head of the plan. -/
theorem of_heads {D T : List Nat} {l : LEnv} {S N : World → Prop} {i : Nat} : ∀ (p : Plan), i ∈ heads p → ∀ alt, check n ops p alt D T = true → W P ops p l S N Q →
    ∃ o p' T', StepC n ops i D o ∧ check n ops p' false (i :: D) T' = true ∧ (T' = T ∨ (T' = [] ∧ ∀ j ∈ T, j ∈ preOf ops i)) ∧
      ∀ w, S w → stepL P ops o l (fun v w' => ∃ S' N' : World → Prop, (T' = T → (N' = N ∨ ∀ j ∈ T, j ∈ preOf ops i)) ∧ (∀ w, S' w → N' w) ∧ S' w' ∧ W P ops p' (pushd l o.dst v) S' N' Q) w := by
  have mono : ∀ (o : Oper) (K K' : Value → World → Prop) (w : World), (∀ v w, K v w → K' v w) → stepL P ops o l K w → stepL P ops o l K' w := by
    intro o K K' w hk h
    unfold stepL at *
    cases hw : wantd ops o l with
    | none => rw [hw] at h; exact h
    | some b => rw [hw] at h; cases b with
      | true => exact opL.mono h hk
      | false => exact hk _ _ h
  intro p
  induction p with
  | fin => intro h; cases h
  | quiet j p _ => intro h; cases h
  | pure j p _ => intro h; cases h
  | loud j p _ =>
    intro hi alt h hw
    have : i = j := by simpa [heads] using hi
    subst this
    simp only [check, Bool.and_eq_true] at h
    obtain ⟨o, hc⟩ := stepC_of h.1.2
    obtain ⟨o', ho', hw'⟩ := hw
    have : o' = o := by rw [hc.get] at ho'; injection ho' with e; exact e.symm
    subst this
    refine ⟨o', p, T, hc, h.2, .inl rfl, fun w hS => mono _ _ _ _ ?_ (hw' w hS)⟩
    rintro v w' ⟨S', h1, h2, h3⟩
    exact ⟨S', N, fun _ => .inl rfl, h1, h2, h3⟩
  | bar j p _ =>
    intro hi alt h hw
    have : i = j := by simpa [heads] using hi
    subst this
    simp only [check, Bool.and_eq_true, List.all_eq_true] at h
    obtain ⟨o, hc⟩ := stepC_of h.1.1.2
    obtain ⟨o', ho', hw'⟩ := hw
    have : o' = o := by rw [hc.get] at ho'; injection ho' with e; exact e.symm
    subst this
    have hT : ∀ j ∈ T, j ∈ preOf ops i := fun j hj => by simpa using h.1.2 j hj
    refine ⟨o', p, [], hc, h.2, .inr ⟨rfl, hT⟩, fun w hS => mono _ _ _ _ ?_ (hw' w hS)⟩
    rintro v w' ⟨S', h2, h3⟩
    exact ⟨S', fun _ => True, fun _ => .inr hT, fun _ _ => trivial, h2, h3⟩
  | both p q ihp ihq =>
    intro hi alt h hw
    simp only [check, Bool.and_eq_true] at h
    simp only [heads, List.mem_append] at hi
    rcases hi with hi | hi
    · exact ihp hi true h.1.2 hw.1
    · exact ihq hi true h.2 hw.2

theorem avail_of {D T : List Nat} {p : Plan} (hp : stuck p = true) (hn : p ≠ .fin) (h : check n ops p false D T = true) {i : Nat} (hi : i < ops.size) (hd : i ∉ D) (hpre : ∀ j ∈ preOf ops i, j ∈ D) : i ∈ heads p := by
  have main : ∀ hs, avail ops D hs = true → i ∈ hs := by
    intro hs ha
    unfold avail at ha
    simp only [List.all_eq_true, List.mem_range, Bool.or_eq_true, Bool.not_eq_true'] at ha
    rcases ha i hi with (h | h) | h
    · exact absurd (by simpa using h) hd
    · have : (preOf ops i).all D.contains = true := List.all_eq_true.2 fun j hj => by simpa using hpre j hj
      rw [this] at h; cases h
    · simpa using h
  cases p with
  | fin => exact absurd rfl hn
  | quiet i p => cases hp
  | pure i p => cases hp
  | loud i p => simp only [check, Bool.and_eq_true, Bool.false_or] at h; exact main _ h.1.1
  | bar i p => simp only [check, Bool.and_eq_true, Bool.false_or] at h; exact main _ h.1.1.1
  | both p q => simp only [check, Bool.and_eq_true, Bool.false_or] at h; exact main _ h.1.1

def unl (listed : Array Bool) : Nat := listed.toList.count false

theorem getD_true {listed : Array Bool} {i : Nat} (h : listed.getD i true = false) : i < listed.size ∧ ¬ listed.getD i false = true := by
  rw [Array.getD_eq_getD_getElem?] at h
  rcases Nat.lt_or_ge i listed.size with h1 | h1
  · refine ⟨h1, ?_⟩
    rw [Array.getD_eq_getD_getElem?]
    rw [Array.getElem?_eq_getElem h1] at h ⊢
    simp only [Option.getD_some] at h ⊢
    simp [h]
  · rw [Array.getElem?_eq_none h1] at h; cases h

theorem getD_of_not {listed : Array Bool} {i : Nat} (hi : i < listed.size) (h : ¬ listed.getD i false = true) : listed.getD i true = false := by
  rw [Array.getD_eq_getD_getElem?] at h ⊢
  rw [Array.getElem?_eq_getElem hi] at h ⊢
  simpa using h

theorem getD_set {listed : Array Bool} {i : Nat} (hi : i < listed.size) (j : Nat) : (listed.setIfInBounds i true).getD j false = true ↔ j = i ∨ listed.getD j false = true := by
  rw [Array.getD_eq_getD_getElem?, Array.getD_eq_getD_getElem?]
  by_cases h : i = j
  · subst h
    rw [Array.getElem?_setIfInBounds_self_of_lt hi]
    simp
  · rw [Array.getElem?_setIfInBounds_ne h]
    constructor
    · exact .inr
    · rintro (rfl | h')
      · exact absurd rfl h
      · exact h'

theorem unl_set {listed : Array Bool} {i : Nat} (h : listed.getD i true = false) : unl (listed.setIfInBounds i true) + 1 = unl listed := by
  obtain ⟨hi, hf⟩ := getD_true h
  have hv : listed.toList[i]'(by simpa using hi) = false := by
    rw [Array.getD_eq_getD_getElem?, Array.getElem?_eq_getElem hi] at h
    simpa using h
  unfold unl
  have : 0 < listed.toList.count false := List.count_pos_iff.2 (hv ▸ List.getElem_mem _)
  rw [Array.toList_setIfInBounds, List.count_set (by simpa using hi), hv]
  have e : (if (true == false) = true then 1 else 0) = 0 := rfl
  rw [e]
  simp only [beq_self_eq_true, if_true]
  omega

/-- **Every order.** -/
theorem any_of_W {l₀ : LEnv} : ∀ (fuel : Nat) (listed : Array Bool) (p : Plan) (vals : Nat → Value) (D T : List Nat) (l : LEnv) (S N : World → Prop) (a : Act) (w : World),
    listed.size = ops.size → unl listed ≤ fuel → (∀ w, S w → N w) → St0 P n ops l₀ vals (fun j => listed.getD j false = true) D T l N a → check n ops p false D T = true → W P ops p l S N (fun l w => R .normal l w) → S w →
    wpAny P .any ops (liftQ n R) fuel listed a w := by
  intro fuel
  induction fuel with
  | zero =>
    intro listed p vals D T l S N a w hsz hf hSN h hck hw hS
    have all : ∀ i, i < ops.size → listed.getD i false = true := by
      intro i hi
      cases hb : listed.getD i false
      · have := getD_of_not (listed := listed) (i := i) (by omega) (by rw [hb]; simp)
        have h1 := unl_set this
        omega
      · rfl
    obtain ⟨p', vals', D', T', l', N', hs, hSN', h', hck', hw'⟩ := St0.advance p vals D T l N hSN h hck hw
    refine ⟨?_, ?_⟩
    · cases hr : Region.ready .any ops listed with
      | nil => rfl
      | cons i r =>
        have := mem_ready.1 (show i ∈ Region.ready .any ops listed by rw [hr]; exact List.mem_cons_self ..)
        exact absurd (all i this.1) (getD_true this.2.1).2
    · by_cases hp : p' = .fin
      · subst hp
        refine ⟨h'.fr.ok, l', ?_, hw' w hS⟩
        intro t v hv
        rcases h'.lw t v hv with ⟨j, hj, h1, rfl⟩ | ⟨h1, h2⟩
        · exact h'.fr.told j (all j (h'.cl.lt j hj)) t h1
        · exact h'.fr.rest t v h1 fun j hj => h2 j (h'.sub j hj)
      · obtain ⟨i, h1, h2, _⟩ := head_ready p' hs hp false hck'
        exact absurd (h'.sub i (all i h2)) h1
  | succ fuel ih =>
    intro listed p vals D T l S N a w hsz hf hSN h hck hw hS
    obtain ⟨p', vals', D', T', l', N', hs, hSN', h', hck', hw'⟩ := St0.advance p vals D T l N hSN h hck hw
    clear h hck hw hSN
    have inE : ∀ i, i < ops.size → ¬ listed.getD i false = true → (∀ j ∈ preOf ops i, listed.getD j false = true) → i ∈ Region.ready .any ops listed := fun i h1 h2 h3 =>
      mem_ready.2 ⟨h1, getD_of_not (by omega) h2, h3⟩
    refine ⟨fun hr => ?_, fun i hi => ?_⟩
    · have dE : ∀ D'' : List Nat, Cl ops D'' → ∀ i ∈ D'', listed.getD i false = true := by
        intro D''
        induction D'' with
        | nil => intro _ i hi; cases hi
        | cons k D'' ihD =>
          intro hcl i hi
          rcases List.mem_cons.1 hi with rfl | hi
          · cases hb : listed.getD i false
            · have := inE i hcl.2.2.1 (by rw [hb]; simp) (fun j hj => ihD hcl.2.2.2 j (hcl.1 j hj))
              rw [hr] at this; cases this
            · rfl
          · exact ihD hcl.2.2.2 i hi
      by_cases hp : p' = .fin
      · subst hp
        refine ⟨h'.fr.ok, l', ?_, hw' w hS⟩
        intro t v hv
        rcases h'.lw t v hv with ⟨j, hj, h1, rfl⟩ | ⟨h1, h2⟩
        · exact h'.fr.told j (dE _ h'.cl j hj) t h1
        · exact h'.fr.rest t v h1 fun j hj => h2 j (h'.sub j hj)
      · obtain ⟨i, h1, h2, h3⟩ := head_ready p' hs hp false hck'
        have := inE i h2 (fun he => h1 (h'.sub i he)) (fun j hj => dE _ h'.cl j (h3 j hj))
        rw [hr] at this; cases this
    · obtain ⟨hlt, hnl, hpre⟩ := mem_ready.1 hi
      obtain ⟨hil, hnE⟩ := getD_true hnl
      have hsz' : (listed.setIfInBounds i true).size = ops.size := by simpa using hsz
      have hf' : unl (listed.setIfInBounds i true) ≤ fuel := by have := unl_set hnl; omega
      have hEE : (fun j => (listed.setIfInBounds i true).getD j false = true) = fun j => j = i ∨ listed.getD j false = true := funext fun j => propext (getD_set hil j)
      have closed' : ∀ j, (j = i ∨ listed.getD j false = true) → ∀ k ∈ preOf ops j, (k = i ∨ listed.getD k false = true) := by
        rintro j (rfl | hj) k hk
        · exact .inr (hpre k hk)
        · exact .inr (h'.closed j hj k hk)
      by_cases hiD : i ∈ D'
      · obtain ⟨o, lj, Dj, h1, h2, h3, h4, h5⟩ := h'.pend i hiD hnE
        have hg : ∀ t ∈ looks ops o, ∀ v, lk lj t = some v → a.tmps.getD t undef = v := fun t ht v hv => h'.fr.get h1 h2 h3 h'.closed hnE hpre ht hv
        have hst : stepL P ops o lj (fun v w' => v = vals' i ∧ w' = w) w := by
          rcases h5 with h5 | ⟨_, h5⟩
          · exact h5 w
          · exact h5 w (hSN' w hS)
        refine wpOp_mono ?_ (step_wpOp h2.get h2.sel hg hst)
        rintro a' w' ⟨v, rfl, rfl, rfl⟩
        refine ih _ p' vals' D' T' l' S N' _ _ hsz' hf' hSN' ?_ hck' hw' hS
        rw [hEE]
        refine ⟨h'.fr.step h2 hnE, h'.cl, ?_, closed', h'.lw, fun j hj hjE => h'.pend j hj fun he => hjE (.inr he)⟩
        rintro j (rfl | hj)
        · exact hiD
        · exact h'.sub j hj
      · have hp : p' ≠ .fin := by
          rintro rfl
          simp only [check, Bool.and_eq_true, List.all_eq_true, List.mem_range] at hck'
          exact hiD (by simpa using hck'.2 i hlt)
        have hpreD : ∀ j ∈ preOf ops i, j ∈ D' := fun j hj => h'.sub j (hpre j hj)
        have hh := avail_of hs hp hck' hlt hiD hpreD
        obtain ⟨o, q, T'', hc, hck2, hT, hstep⟩ := of_heads p' hh false hck' hw'
        have hg : ∀ t ∈ looks ops o, ∀ v, lk l' t = some v → a.tmps.getD t undef = v := fun t ht v hv => h'.fr.get h'.cl hc h'.lw h'.closed hnE hpre ht hv
        refine wpOp_mono ?_ (step_wpOp hc.get hc.sel hg (hstep w hS))
        rintro a' w' ⟨v, rfl, S', N2, hm, hSN2, hS', hw2⟩
        refine ih _ q (setv vals' i v) (i :: D') T'' (pushd l' o.dst v) S' N2 _ _ hsz' hf' hSN2 ?_ hck2 hw2 hS'
        rw [hEE]
        have old : ∀ j, j ≠ i → setv vals' i v j = vals' j := fun j hj => if_neg hj
        have hfr : Fr n ops l₀ (setv vals' i v) (fun j => listed.getD j false = true) a :=
          ⟨h'.fr.ok, fun j hj d hd => by rw [old j (fun e => hnE (e ▸ hj))]; exact h'.fr.told j hj d hd, h'.fr.rest⟩
        refine ⟨?_, ⟨hc.pre, hc.new, hlt, h'.cl⟩, ?_, closed', h'.lw.push hc v, ?_⟩
        · have := hfr.step hc hnE
          simpa [setv] using this
        · rintro j (rfl | hj)
          · exact List.mem_cons_self ..
          · exact List.mem_cons_of_mem _ (h'.sub j hj)
        · intro j hj hjE
          have hji : j ≠ i := fun e => hjE (.inl e)
          have hj' : j ∈ D' := by
            rcases List.mem_cons.1 hj with h | h
            · exact absurd h hji
            · exact h
          obtain ⟨o', lj, Dj, h1, h2, h3, h4, h5⟩ := h'.pend j hj' fun he => hjE (.inr he)
          refine ⟨o', lj, Dj, h1, h2, h3.other (fun hi => hc.new (h4 i hi)) v, fun k hk => List.mem_cons_of_mem _ (h4 k hk), ?_⟩
          rw [old j hji]
          rcases h5 with h5 | ⟨h5, h6⟩
          · exact .inl h5
          · rcases hT with hT | ⟨_, hT⟩
            · rcases hm hT with hm | hm
              · exact .inr ⟨hT ▸ h5, fun w hw => h6 w (hm ▸ hw)⟩
              · exact absurd (.inr (hpre j (hm j h5))) hjE
            · exact absurd (.inr (hpre j (hT j h5))) hjE

theorem cw_drawn {id : Nat} {l : LEnv} {w : World} {Q' : Exit → LEnv → World → Prop} (hm : P.follows .mixedOrders = true) (p : Plan) (hck : check n ops p false [] [] = true)
    (S : World → Prop) (hS : S { w with drawn := w.drawn + 1 }) (h : W P ops p l S (fun _ => True) fun l w => Q' .normal l w) : cw P n (.region id ops true) l w Q' := by
  intro a ho hl
  have hno : ∀ j : Nat, ¬ (Array.replicate ops.size false).getD j false = true := by
    intro j h
    rw [Array.getD_eq_getD_getElem?, Array.getElem?_replicate] at h
    split at h <;> simp at h
  have h0 : St0 P n ops l (fun _ => undef) (fun j => (Array.replicate ops.size false).getD j false = true) [] [] l (fun _ => True) a :=
    ⟨⟨ho, fun j hj => absurd hj (hno j), fun t v hv _ => hl t v hv⟩, trivial, fun j hj => absurd hj (hno j), fun j hj => absurd hj (hno j), fun t v hv => .inr ⟨hv, fun j hj => by cases hj⟩, fun j hj => by cases hj⟩
  refine wp_region_any hm ?_
  have hu : unl (Array.replicate ops.size false) ≤ ops.size := by
    unfold unl
    exact Nat.le_trans List.count_le_length (by simp)
  exact any_of_W (R := Q') ops.size _ p _ [] [] l S (fun _ => True) a { w with drawn := w.drawn + 1 } (by simp) hu (fun _ _ => trivial) h0 hck h hS
end
end Go.Proofs.YtgbhegmhbeekpaaGreat
