/-
  Machines never refuse, are never stuck, end alike.
-/
import Derived.Test.YtgbhegmhbeekpaaGreatN1
namespace Go.Proofs.YtgbhegmhbeekpaaGreat
open Go
set_option linter.unusedVariables false


def stepZ (ev : EvF) (m : Mac) (z : Int) : Mac := if 0 ≤ z then stepM ev m z.toNat else m
def canZ (m : Mac) (z : Int) : Bool := decide (0 ≤ z) && canM m z.toNat
def runZ (ev : EvF) (m : Mac) (ps : List Int) : Mac := ps.foldl (stepZ ev) m
def rem (es : List EvT) (n : Nat) (m : Mac) : Nat := tot (fun d => (evd es d).length - (m.dev d).pc) n
/-- whatever is sent is received -/
def Full (es : List EvT) : Prop := ∀ s ∈ es, s.i.kind = 3 → ∃ r ∈ es, r.i.kind = 4 ∧ r.i.tag = s.i.tag

section
variable {ev : EvF} {n : Nat} {G : Nat → List Tn} {es : List EvT} {m : Mac}

theorem dev_none (h : MInv es n G m) {d : Nat} (hd : n ≤ d) : m.dev d = Dev0 := by
  unfold Mac.dev
  rw [List.getD_eq_getElem?_getD, List.getElem?_eq_none (by rw [h.len]; exact hd)]; rfl
theorem can_lt (h : MInv es n G m) {d : Nat} (hc : canM m d = true) : d < n := by
  rcases Nat.lt_or_ge d n with h1 | h1
  · exact h1
  · unfold canM nextI at hc
    rw [dev_none h h1] at hc
    simp [Dev0] at hc
theorem MInv.can (h : MInv es n G m) {d : Nat} (hc : canM m d = true) : d < n ∧ ∃ e, (evd es d)[(m.dev d).pc]? = some e ∧ nextI m d = some e.i := by
  have hd := can_lt h hc
  cases he : (evd es d)[(m.dev d).pc]? with
  | none =>
    have hn : nextI m d = none := by rw [h.next hd, he]; rfl
    unfold canM at hc; rw [hn] at hc; cases hc
  | some e => exact ⟨hd, e, rfl, by rw [h.next hd, he]; rfl⟩
/-- what a step is, where it can be done -/
theorem MInv.stepM_eq (h : MInv es n G m) (hg : Good ev n G es) {d : Nat} (hc : canM m d = true) {e : EvT} (he : (evd es d)[(m.dev d).pc]? = some e) : stepM ev m d = doM m d e.i e.v := by
  obtain ⟨hd, e', he', hn⟩ := h.can hc
  have : e' = e := by rw [he] at he'; injection he' with he'; exact he'.symm
  subst this
  unfold stepM
  rw [if_pos hc, hn]
  simp only [(h.val hg hd he hc).1]
theorem stepM_not {d : Nat} (hc : canM m d = false) : stepM ev m d = m := by unfold stepM; rw [hc]; rfl
theorem MInv.doneN (h : MInv es n G m) (hg : Good ev n G es) (d : Nat) : MInv es n G (stepM ev m d) := by
  rcases Nat.lt_or_ge d n with hd | hd
  · exact h.doneM hg hd
  · rw [stepM_not]
    · exact h
    · cases hc : canM m d with
      | false => rfl
      | true => have := can_lt h hc; omega
theorem MInv.doneZ (h : MInv es n G m) (hg : Good ev n G es) (z : Int) : MInv es n G (stepZ ev m z) := by
  unfold stepZ; split
  · exact h.doneN hg _
  · exact h
theorem MInv.ranZ (hg : Good ev n G es) : ∀ (ps : List Int) {m : Mac}, MInv es n G m → MInv es n G (runZ ev m ps)
  | [], _, h => h
  | p :: ps, _, h => MInv.ranZ hg ps (h.doneZ hg p)

/-- somewhere it can go on -/
theorem MInv.go (h : MInv es n G m) (hg : Good ev n G es) : ∀ (k : Nat) (a b : List EvT) (e : EvT), a.length ≤ k → es = a ++ e :: b → (m.dev e.d).pc ≤ (evd a e.d).length → ∃ d, canM m d = true := by
  intro k
  induction k with
  | zero =>
    intro a b e hk he hpc
    have ha : a = [] := List.eq_nil_of_length_eq_zero (by omega)
    subst ha
    have hp0 : (m.dev e.d).pc = 0 := by simpa [evd] using hpc
    have h1 := idx_of he
    have hok := hg.split [] e b he
    have hd := hok.lt
    refine ⟨e.d, ?_⟩
    have hn : nextI m e.d = some e.i := by rw [h.next hd, hp0]; simpa [evd] using congrArg (Option.map EvT.i) h1
    unfold canM
    rw [hn]
    cases hok with
    | take _ hk => simp [hk]
    | work _ hk => simp [hk]
    | send _ hk => simp [hk]
    | recv _ hk ho s hs => simp at hs
  | succ k ih =>
    intro a b e hk he hpc
    have h1 := idx_of he
    have hok := hg.split a e b he
    have hd := hok.lt
    by_cases hlt : (m.dev e.d).pc < (evd a e.d).length
    · -- an earlier one of the same device
      have hlen : (evd a e.d).length < (evd es e.d).length := (List.getElem?_eq_some_iff.1 h1).1
      obtain ⟨e', he'⟩ : ∃ e', (evd es e.d)[(m.dev e.d).pc]? = some e' := ⟨_, List.getElem?_eq_getElem (by omega)⟩
      obtain ⟨a', b', q1, q2, q3, _⟩ := hg.at he'
      have hl' : (evd a' e.d).length = (m.dev e.d).pc := by rw [q2, List.length_take]; omega
      have hshort : a'.length < a.length := by
        rcases Nat.lt_or_ge a'.length a.length with h2 | h2
        · exact h2
        · exfalso
          have hpre : a <+: a' := List.prefix_of_prefix_length_le ⟨e :: b, he.symm⟩ ⟨e' :: b', q1.symm⟩ h2
          obtain ⟨t, rfl⟩ := hpre
          rw [evd_append, List.length_append] at hl'
          omega
      exact ih a' b' e' (by omega) q1 (by rw [q3, hl']; exact Nat.le_refl _)
    · have hpe : (m.dev e.d).pc = (evd a e.d).length := by omega
      have hn : nextI m e.d = some e.i := by rw [h.next hd, hpe, h1]; rfl
      have fin : (lkE m.bag (e.i.dev, (e.d : Int), e.i.tag)).isSome = true ∨ e.i.kind ≠ 4 → ∃ d, canM m d = true := fun hh => ⟨e.d, by unfold canM; rw [hn]; rcases hh with hh | hh <;> simp [hh]⟩
      cases hok with
      | take _ hk => exact fin (.inr (by omega))
      | work _ hk => exact fin (.inr (by omega))
      | send _ hk => exact fin (.inr (by omega))
      | recv _ hk4 ho s hs sk sd se st sv ht =>
        obtain ⟨a2, b2, q2⟩ := List.append_of_mem hs
        have hes : es = a2 ++ s :: (b2 ++ e :: b) := by rw [he, q2]; simp
        by_cases hdone : (evd a2 s.d).length < (m.dev s.d).pc
        · refine fin (.inl ?_)
          have hsd : s ∈ didE es m s.d := (did_iff hes hg (.inl sk)).2 hdone
          have hb : lkE m.bag (e.i.dev, (e.d : Int), e.i.tag) = some s.v := by
            refine (h.bag _ _ _ _).2 ⟨⟨s, by omega, by rw [← sd]; exact hsd, sk, se, st, rfl⟩, ?_⟩
            rintro ⟨r, hr, rk, rt⟩
            obtain ⟨a3, b3, q3⟩ := List.append_of_mem (mem_did hr).1
            obtain ⟨u1, u2⟩ := hg.recvs q3 he rk hk4 rt
            subst u1; subst u2
            have := (did_iff (m := m) he hg (.inr hk4)).1 (by simpa using hr)
            omega
          rw [hb]; rfl
        · refine ih a2 _ s ?_ hes (by omega)
          rw [q2, List.length_append] at hk
          simp only [List.length_cons] at hk
          omega

theorem haltM_iff (h : MInv es n G m) : haltM m = true ↔ ∀ d, d < n → (m.dev d).pc = (evd es d).length := by
  unfold haltM
  rw [List.all_eq_true]
  constructor
  · intro hh d hd
    have hd' : d < m.l.length := by rw [h.len]; exact hd
    have e1 : m.dev d = m.l[d] := by unfold Mac.dev; rw [List.getD_eq_getElem?_getD, List.getElem?_eq_getElem hd']; rfl
    have := hh m.l[d] (List.getElem_mem hd')
    have h2 := h.pc d hd
    have h3 := h.prog d hd
    rw [e1] at h2 h3 ⊢
    rw [h3] at this
    simp only [progE, List.length_map, decide_eq_true_eq] at this
    omega
  · intro hh x hx
    obtain ⟨d, hd, rfl⟩ := List.mem_iff_getElem.1 hx
    have hdn : d < n := by rw [← h.len]; exact hd
    have e1 : m.dev d = m.l[d] := by unfold Mac.dev; rw [List.getD_eq_getElem?_getD, List.getElem?_eq_getElem hd]; rfl
    have h2 := hh d hdn
    have h3 := h.prog d hdn
    rw [e1] at h2 h3
    rw [h3, h2]
    simp [progE]
theorem MInv.live (h : MInv es n G m) (hg : Good ev n G es) (hh : haltM m = false) : ∃ d, d < n ∧ canM m d = true := by
  have hx : ∃ d, d < n ∧ (m.dev d).pc ≠ (evd es d).length := by
    apply Classical.byContradiction
    intro hc
    have : haltM m = true := (haltM_iff h).2 fun d hd => Classical.byContradiction fun hne => hc ⟨d, hd, hne⟩
    rw [this] at hh; cases hh
  obtain ⟨d, hd, hne⟩ := hx
  have hle := h.pc d hd
  obtain ⟨e, he⟩ : ∃ e, (evd es d)[(m.dev d).pc]? = some e := ⟨_, List.getElem?_eq_getElem (by omega)⟩
  obtain ⟨a, b, q1, q2, q3, _⟩ := hg.at he
  obtain ⟨d', hd'⟩ := h.go hg a.length a b e (Nat.le_refl _) q1 (by rw [q3, q2, List.length_take]; omega)
  exact ⟨d', can_lt h hd', hd'⟩
theorem MInv.dead (h : MInv es n G m) (hh : haltM m = true) (d : Nat) : canM m d = false := by
  cases hc : canM m d with
  | false => rfl
  | true =>
    obtain ⟨hd, e, he, _⟩ := h.can hc
    have := (haltM_iff h).1 hh d hd
    rw [this] at he
    simp at he

/-- at the end -/
theorem MInv.endRegs (h : MInv es n G m) (hh : haltM m = true) {d : Nat} (hd : d < n) (r : Int) : lkE (m.dev d).regs r = if 0 ≤ r then (valE es d)[r.toNat]? else none := by
  have h1 := (haltM_iff h).1 hh d hd
  rw [h.regs d hd r]
  unfold didE valE
  rw [h1, List.take_length]
theorem MInv.endBag (h : MInv es n G m) (hg : Good ev n G es) (hf : Full es) (hh : haltM m = true) : m.bag = [] := by
  cases hb : m.bag with
  | nil => rfl
  | cons p l =>
    obtain ⟨⟨fr, to, tag⟩, v⟩ := p
    have hs : lkE m.bag (fr, to, tag) = some v := by rw [hb, lkE_cons', if_pos rfl]
    obtain ⟨⟨s, h0, hs, sk, sd, st, sv⟩, hno⟩ := (h.bag _ _ _ _).1 hs
    obtain ⟨r, hr, rk, rt⟩ := hf s (mem_did hs).1 sk
    exfalso
    apply hno
    obtain ⟨a, b, q⟩ := List.append_of_mem hr
    have hok := hg.split a r b q
    have hrd : r ∈ didE es m r.d := by
      have := (haltM_iff h).1 hh r.d hok.lt
      unfold didE
      rw [this, List.take_length]
      exact mem_evd.2 ⟨hr, rfl⟩
    refine ⟨r, ?_, rk, by rw [rt, st]⟩
    cases hok with
    | take _ hk => omega
    | work _ hk => omega
    | send _ hk => omega
    | recv _ hk ho s' hs' sk' sd' se' st' sv' ht' =>
      obtain ⟨a1, b1, q1⟩ := List.append_of_mem (mem_did hs).1
      have hs2 : s' ∈ es := by rw [q]; exact List.mem_append_left _ hs'
      obtain ⟨a2, b2, q2⟩ := List.append_of_mem hs2
      obtain ⟨_, u⟩ := hg.sends q1 q2 sk sk' (by rw [st', rt])
      subst u
      have : to.toNat = r.d := by omega
      rw [this]; exact hrd
theorem MInv.endSent (h : MInv es n G m) (hh : haltM m = true) : m.sent = tot (fun d => cnt 3 (evd es d)) n := by
  rw [h.sent]
  refine tot_congr n fun d hd => ?_
  have := (haltM_iff h).1 hh d hd
  unfold didE
  rw [this, List.take_length]
theorem MInv.sent_le (h : MInv es n G m) : m.sent ≤ tot (fun d => cnt 3 (evd es d)) n := by
  rw [h.sent]
  refine tot_le n fun d hd => ?_
  unfold cnt didE
  exact ((List.take_sublist _ _).filter _).length_le

/-- what is written stays -/
theorem MInv.stays (h : MInv es n G m) (hg : Good ev n G es) (z : Int) {d : Nat} (hd : d < n) {r : Int} {v : Tn} (hv : lkE (m.dev d).regs r = some v) : lkE ((stepZ ev m z).dev d).regs r = some v := by
  unfold stepZ
  split
  · cases hc : canM m z.toNat with
    | false => rw [stepM_not hc]; exact hv
    | true =>
      obtain ⟨hzd, e, he, hn⟩ := h.can hc
      have h' := h.doneN hg z.toNat
      rw [h'.regs d hd]
      rw [h.regs d hd] at hv
      split
      · rename_i h0
        rw [if_pos h0] at hv
        rw [h.stepM_eq hg hc he]
        by_cases hdz : d = z.toNat
        · subst hdz
          rw [did_next he (by rw [doM_dev (by rw [h.len]; exact hzd)]; simp), vsE_snoc]
          split
          · exact hv
          · rw [List.getElem?_append]
            split
            · exact hv
            · rw [List.getElem?_eq_none (by omega)] at hv; cases hv
        · have e9 : didE es (doM m z.toNat e.i e.v) d = didE es m d := did_other (by rw [doM_dev (by rw [h.len]; exact hzd), if_neg hdz])
          rw [e9]; exact hv
      · rename_i h0; rw [if_neg h0] at hv; cases hv
  · exact hv

/-- whom a step does not concern -/
theorem MInv.stable (h : MInv es n G m) (hg : Good ev n G es) {d d' : Nat} (hc : canM m d = true) (hne : d ≠ d') : canM (stepM ev m d') d = true := by
  cases hc' : canM m d' with
  | false => rw [stepM_not hc']; exact hc
  | true =>
    obtain ⟨hd', e', he', hn'⟩ := h.can hc'
    obtain ⟨hd, e, he, hn⟩ := h.can hc
    rw [h.stepM_eq hg hc' he']
    have hdev : (doM m d' e'.i e'.v).dev d = m.dev d := by rw [doM_dev (by rw [h.len]; exact hd'), if_neg hne]
    have hn2 : nextI (doM m d' e'.i e'.v) d = some e.i := by unfold nextI; rw [hdev]; exact hn
    unfold canM at hc ⊢
    rw [hn] at hc; rw [hn2]
    by_cases hk : e.i.kind = 4
    · simp only [hk, decide_true, Bool.not_true, Bool.false_or] at hc ⊢
      unfold doM
      split
      · show (lkE (m.bag ++ _) _).isSome = true
        rw [lkE_snoc]
        cases hb : lkE m.bag (e.i.dev, (d : Int), e.i.tag) with
        | none => rw [hb] at hc; cases hc
        | some v => rfl
      · show (lkE (if _ then _ else _) _).isSome = true
        split
        · rw [lkE_del, if_neg]
          · exact hc
          · intro hq
            simp only [Prod.mk.injEq] at hq
            omega
        · exact hc
    · simp [hk]

theorem MInv.rem_step (h : MInv es n G m) (hg : Good ev n G es) {d : Nat} (hc : canM m d = true) : rem es n (stepM ev m d) + 1 = rem es n m := by
  obtain ⟨hd, e, he, hn⟩ := h.can hc
  rw [h.stepM_eq hg hc he]
  unfold rem
  refine (tot_upd hd fun x hx => ?_).symm
  rw [doM_dev (by rw [h.len]; exact hd)]
  have hlt := (List.getElem?_eq_some_iff.1 he).1
  by_cases hxd : x = d
  · subst hxd; simp only [if_true]; omega
  · simp [hxd]
theorem MInv.pc_step (h : MInv es n G m) (hg : Good ev n G es) {d : Nat} (hc : canM m d = true) (x : Nat) : ((stepM ev m d).dev x).pc = (m.dev x).pc + if x = d then 1 else 0 := by
  obtain ⟨hd, e, he, hn⟩ := h.can hc
  rw [h.stepM_eq hg hc he, doM_dev (by rw [h.len]; exact hd)]
  by_cases hxd : x = d <;> simp [hxd]
theorem MInv.rem_le (h : MInv es n G m) (hg : Good ev n G es) (z : Int) : rem es n (stepZ ev m z) ≤ rem es n m := by
  unfold stepZ
  split
  · cases hc : canM m z.toNat with
    | false => rw [stepM_not hc]; exact Nat.le_refl _
    | true => have := h.rem_step hg hc; omega
  · exact Nat.le_refl _
theorem MInv.rem_run (hg : Good ev n G es) : ∀ (ps : List Int) {m : Mac}, MInv es n G m → rem es n (runZ ev m ps) ≤ rem es n m
  | [], _, _ => Nat.le_refl _
  | p :: ps, _, h => Nat.le_trans (MInv.rem_run hg ps (h.doneZ hg p)) (h.rem_le hg p)
theorem MInv.rem_lt (hg : Good ev n G es) {d : Nat} : ∀ (ps : List Int) {m : Mac}, MInv es n G m → canM m d = true → (d : Int) ∈ ps → rem es n (runZ ev m ps) < rem es n m
  | [], _, _, _, hp => by simp at hp
  | p :: ps, m, h, hc, hp => by
    by_cases e : p = d
    · subst e
      have h1 := MInv.rem_run hg ps (h.doneZ hg (d : Int))
      have h2 := h.rem_step hg hc
      have h3 : stepZ ev m (d : Int) = stepM ev m d := by unfold stepZ; rw [if_pos (by omega)]; simp
      rw [h3] at h1
      show rem es n (runZ ev (stepZ ev m (d : Int)) ps) < _
      rw [h3]
      omega
    · have hp' : (d : Int) ∈ ps := by
        rcases List.mem_cons.1 hp with h1 | h1
        · exact absurd h1.symm e
        · exact h1
      have hc' : canM (stepZ ev m p) d = true := by
        unfold stepZ
        split
        · exact h.stable hg hc (by omega)
        · exact hc
      have h1 := MInv.rem_lt hg ps (h.doneZ hg p) hc' hp'
      have h2 := h.rem_le hg p
      show rem es n (runZ ev (stepZ ev m p) ps) < _
      omega
theorem rem_zero (h : MInv es n G m) : rem es n m = 0 ↔ haltM m = true := by
  rw [haltM_iff h]
  constructor
  · intro h0 d hd
    have h1 := tot_zero h0 d hd
    have h2 := h.pc d hd
    omega
  · intro hh
    unfold rem
    have : ∀ n, (∀ d, d < n → (m.dev d).pc = (evd es d).length) → tot (fun d => (evd es d).length - (m.dev d).pc) n = 0 := by
      intro n
      induction n with
      | zero => intro _; rfl
      | succ n ih => intro hh; rw [tot, ih fun d hd => hh d (by omega), hh n (by omega)]; simp
    exact this n hh
/-- rounds in which each has its turn -/
theorem MInv.rounds (hg : Good ev n G es) : ∀ (L : List (List Int)) {m : Mac}, MInv es n G m → (∀ ps ∈ L, ∀ d : Nat, d < n → (d : Int) ∈ ps) → rem es n (runZ ev m L.flatten) ≤ rem es n m - L.length
  | [], _, _, _ => by simp [runZ]
  | ps :: L, m, h, hL => by
    have e1 : runZ ev m (ps :: L).flatten = runZ ev (runZ ev m ps) L.flatten := by simp [runZ, List.flatten_cons, List.foldl_append]
    rw [e1]
    have h1 := MInv.rounds hg L (MInv.ranZ hg ps h) fun qs hq => hL qs (List.mem_cons_of_mem _ hq)
    have h2 : rem es n (runZ ev m ps) ≤ rem es n m - 1 := by
      cases hh : haltM m with
      | true =>
        have := (rem_zero h).2 hh
        have h3 := MInv.rem_run (m := m) hg ps h
        omega
      | false =>
        obtain ⟨d, hd, hc⟩ := h.live hg hh
        have := MInv.rem_lt hg ps h hc (hL ps (List.mem_cons_self ..) d hd)
        omega
    simp only [List.length_cons]
    omega
end

theorem rem_start (es : List EvT) (n : Nat) (m : Mac) : rem es n m ≤ tot (fun d => (evd es d).length) n := tot_le n fun d _ => Nat.sub_le _ _
theorem tot_evd (n : Nat) : ∀ es : List EvT, (∀ e ∈ es, e.d < n) → tot (fun d => (evd es d).length) n = es.length
  | [], _ => by
    have : ∀ n, tot (fun d => (evd [] d).length) n = 0 := by
      intro n
      induction n with
      | zero => rfl
      | succ n ih => rw [tot, ih]; rfl
    exact this n
  | e :: es, h => by
    have ih := tot_evd n es fun x hx => h x (List.mem_cons_of_mem _ hx)
    rw [List.length_cons, ← ih]
    refine tot_upd (h e (List.mem_cons_self ..)) fun x _ => ?_
    have : evd (e :: es) x = evd [e] x ++ evd es x := by rw [← evd_append]; rfl
    rw [this, evd_one, List.length_append]
    by_cases hx : e.d = x
    · subst hx; simp; omega
    · rw [if_neg hx, if_neg (Ne.symm hx)]; simp

/-- at its beginning -/
def mac0 (es : List EvT) (n : Nat) (G : Nat → List Tn) : Mac := ⟨(List.range n).map fun d => ⟨progE es d, 0, [], G d⟩, [], 0⟩
theorem mac0_dev (es : List EvT) (n : Nat) (G : Nat → List Tn) {d : Nat} (hd : d < n) : (mac0 es n G).dev d = ⟨progE es d, 0, [], G d⟩ := by
  unfold mac0 Mac.dev
  simp [List.getD_eq_getElem?_getD, hd]
theorem mac0_did (es : List EvT) (n : Nat) (G : Nat → List Tn) (d : Nat) : didE es (mac0 es n G) d = [] := by
  unfold didE
  rcases Nat.lt_or_ge d n with hd | hd
  · rw [mac0_dev es n G hd]; rfl
  · unfold mac0 Mac.dev
    simp [List.getD_eq_getElem?_getD, hd, Dev0]
theorem tot_nil : ∀ n, tot (fun _ => 0) n = 0
  | 0 => rfl
  | n + 1 => by rw [tot, tot_nil n]
theorem MInv.start (es : List EvT) (n : Nat) (G : Nat → List Tn) : MInv es n G (mac0 es n G) := by
  refine ⟨by simp [mac0], fun d hd => by rw [mac0_dev es n G hd], fun d hd => by rw [mac0_dev es n G hd], fun d hd => by rw [mac0_dev es n G hd]; exact Nat.zero_le _, ?_, ?_, ?_, List.nodup_nil, ?_, ?_⟩
  · intro d hd r
    rw [mac0_dev es n G hd, mac0_did]
    simp [lkE, vsE]
  · intro fr to tag v
    simp only [mac0_did]
    simp [mac0, lkE]
  · intro d r hr
    rw [mac0_did] at hr
    simp at hr
  · simp only [mac0_did]
    simp [cnt, mac0, tot_nil]
  · simp only [mac0_did]
    simp [cnt, mac0, tot_nil]

end Go.Proofs.YtgbhegmhbeekpaaGreat
