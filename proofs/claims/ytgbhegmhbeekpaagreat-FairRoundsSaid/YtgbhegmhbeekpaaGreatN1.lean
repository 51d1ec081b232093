/-
  Programs that run, without a program in sight: events, machines, what a step is, what stays.
-/
import Derived.Test.YtgbhegmhbeekpaaGreatZ6
import Derived.Test.YtgbhegmhbeekpaaGreatB6
namespace Go.Proofs.YtgbhegmhbeekpaaGreat
open Go
set_option linter.unusedVariables false


section look
variable {K β : Type} [DecidableEq K]
theorem lkE_nil (k : K) : lkE ([] : List (K × β)) k = none := rfl
theorem lkE_cons' (k k' : K) (v : β) (l : List (K × β)) : lkE ((k', v) :: l) k = if k' = k then some v else lkE l k := by
  by_cases e : k' = k <;> simp [lkE, e]
theorem lkE_snoc (k k' : K) (v : β) : ∀ l : List (K × β), lkE (l ++ [(k', v)]) k = (lkE l k).or (if k' = k then some v else none)
  | [] => by rw [List.nil_append, lkE_cons']; rfl
  | (k1, v1) :: l => by
    rw [List.cons_append, lkE_cons', lkE_cons', lkE_snoc k k' v l]
    by_cases e : k1 = k <;> simp [e]
theorem lkE_put (k k' : K) (v : β) (l : List (K × β)) : lkE (putE l k' v) k = if k' = k then some v else lkE l k := by
  have hm : ∀ l : List (K × β), lkE (l.map fun p => if p.1 = k' then (k', v) else p) k = if k' = k then (if (lkE l k').isSome then some v else none) else lkE l k := by
    intro l
    induction l with
    | nil => by_cases e : k' = k <;> simp [lkE, e]
    | cons p l ih =>
      obtain ⟨k1, v1⟩ := p
      rw [List.map_cons]
      by_cases e1 : k1 = k'
      · subst e1
        simp only [if_true]
        rw [lkE_cons', ih, lkE_cons', lkE_cons']
        by_cases e : k1 = k <;> simp [e]
      · rw [if_neg e1, lkE_cons', ih, lkE_cons', lkE_cons', if_neg e1]
        by_cases e : k' = k
        · subst e; simp [e1]
        · by_cases e2 : k1 = k <;> simp [e, e2]
  unfold putE
  split
  · rename_i h
    rw [hm, h]
    by_cases e : k' = k <;> simp [e]
  · rename_i h
    rw [lkE_snoc]
    by_cases e : k' = k
    · subst e
      cases h2 : lkE l k' with
      | none => simp
      | some u => rw [h2] at h; simp at h
    · cases lkE l k <;> simp [e]
theorem lkE_del (k k' : K) : ∀ l : List (K × β), lkE (delE l k') k = if k' = k then none else lkE l k
  | [] => by simp [delE, lkE]
  | (k1, v1) :: l => by
    have ih := lkE_del k k' l
    unfold delE at ih ⊢
    by_cases e1 : k1 = k'
    · subst e1
      rw [List.filter_cons_of_neg (by simp), ih, lkE_cons']
      by_cases e : k1 = k <;> simp [e]
    · rw [List.filter_cons_of_pos (by simpa using e1), lkE_cons', ih, lkE_cons']
      by_cases e : k1 = k
      · subst e; simp [Ne.symm e1]
      · simp [e]
theorem lkE_isSome {k : K} {l : List (K × β)} : (lkE l k).isSome = true ↔ k ∈ l.map (·.1) := by
  induction l with
  | nil => simp [lkE]
  | cons p l ih =>
    obtain ⟨k1, v1⟩ := p
    rw [lkE_cons', List.map_cons, List.mem_cons]
    by_cases e : k1 = k
    · simp [e]
    · simp only [e, if_false, ih, Ne.symm e, false_or]
theorem lkE_none {k : K} {l : List (K × β)} : lkE l k = none ↔ k ∉ l.map (·.1) := by
  rw [← lkE_isSome]
  cases lkE l k <;> simp
theorem del_len {k : K} {l : List (K × β)} (hn : (l.map (·.1)).Nodup) (h : (lkE l k).isSome = true) : (delE l k).length + 1 = l.length := by
  induction l with
  | nil => simp [lkE] at h
  | cons p l ih =>
    obtain ⟨k1, v1⟩ := p
    rw [List.map_cons, List.nodup_cons] at hn
    by_cases e : k1 = k
    · subst e
      have : delE ((k1, v1) :: l) k1 = l := by
        unfold delE
        rw [List.filter_cons_of_neg (by simp), List.filter_eq_self.2]
        intro q hq
        have : q.1 ≠ k1 := fun he => hn.1 (List.mem_map.2 ⟨q, hq, he⟩)
        simpa using this
      rw [this]; rfl
    · rw [lkE_cons', if_neg e] at h
      have := ih hn.2 h
      unfold delE at this ⊢
      rw [List.filter_cons_of_pos (by simpa using e)]
      simp only [List.length_cons]
      omega
theorem nodup_del {k : K} {l : List (K × β)} (hn : (l.map (·.1)).Nodup) : ((delE l k).map (·.1)).Nodup := hn.sublist ((List.filter_sublist ..).map _)
theorem nodup_snoc {k : K} {v : β} {l : List (K × β)} (hn : (l.map (·.1)).Nodup) (h : lkE l k = none) : ((l ++ [(k, v)]).map (·.1)).Nodup := by
  rw [List.map_append, List.nodup_append]
  refine ⟨hn, by simp, fun a ha b hb e => ?_⟩
  have hb' : b = k := by simpa using hb
  rw [e, hb'] at ha
  exact lkE_none.1 h ha
end look

/-! ### Events: what devices do, in an order in which it can be done -/
structure EvT where
  d : Nat
  i : Inst
  v : Tn

abbrev EvF := Nd → List Tn → Option Tn

def evd (es : List EvT) (d : Nat) : List EvT := es.filter fun e => decide (e.d = d)
def progE (es : List EvT) (d : Nat) : List Inst := (evd es d).map (·.i)
def wr (e : EvT) : Bool := decide (e.i.kind ≠ 3)
def vsE (l : List EvT) : List Tn := (l.filter wr).map (·.v)
def valE (es : List EvT) (d : Nat) : List Tn := vsE (evd es d)

theorem evd_append (a b : List EvT) (d : Nat) : evd (a ++ b) d = evd a d ++ evd b d := by simp [evd]
theorem evd_one (e : EvT) (d : Nat) : evd [e] d = if e.d = d then [e] else [] := by
  by_cases h : e.d = d <;> simp [evd, h]
theorem vsE_append (a b : List EvT) : vsE (a ++ b) = vsE a ++ vsE b := by simp [vsE]

/-- what may come next -/
inductive OkEv (ev : EvF) (n : Nat) (G : Nat → List Tn) (es : List EvT) (e : EvT) : Prop
  | take (hd : e.d < n) (hk : e.i.kind = 1) (hn : 0 ≤ e.i.n) (hv : (G e.d)[e.i.n.toNat]? = some e.v) (ho : e.i.out = ((valE es e.d).length : Int)) : OkEv ev n G es e
  | work (hd : e.d < n) (hk : e.i.kind = 2) (hr : ∀ r ∈ e.i.inn, 0 ≤ r ∧ r.toNat < (valE es e.d).length) (hv : ev e.i.node (e.i.inn.map fun r => (valE es e.d).getD r.toNat Tn0) = some e.v) (ho : e.i.out = ((valE es e.d).length : Int)) : OkEv ev n G es e
  | send (hd : e.d < n) (hk : e.i.kind = 3) (a : Nat) (hi : e.i.inn = [(a : Int)]) (hv : (valE es e.d)[a]? = some e.v) (h0 : 0 ≤ e.i.dev) (h1 : e.i.dev < n) (ht : ∀ s ∈ es, s.i.kind = 3 → s.i.tag ≠ e.i.tag) : OkEv ev n G es e
  | recv (hd : e.d < n) (hk : e.i.kind = 4) (ho : e.i.out = ((valE es e.d).length : Int)) (s : EvT) (hs : s ∈ es) (sk : s.i.kind = 3) (sd : (s.d : Int) = e.i.dev) (se : s.i.dev = e.d) (st : s.i.tag = e.i.tag) (sv : s.v = e.v) (ht : ∀ r ∈ es, r.i.kind = 4 → r.i.tag ≠ e.i.tag) : OkEv ev n G es e

inductive Good (ev : EvF) (n : Nat) (G : Nat → List Tn) : List EvT → Prop
  | nil : Good ev n G []
  | snoc {es : List EvT} {e : EvT} (h : Good ev n G es) (he : OkEv ev n G es e) : Good ev n G (es ++ [e])

section
variable {ev : EvF} {n : Nat} {G : Nat → List Tn}

theorem OkEv.lt {es : List EvT} {e : EvT} (h : OkEv ev n G es e) : e.d < n := by cases h <;> assumption
theorem OkEv.kind {es : List EvT} {e : EvT} (h : OkEv ev n G es e) : e.i.kind = 1 ∨ e.i.kind = 2 ∨ e.i.kind = 3 ∨ e.i.kind = 4 := by cases h <;> simp [*]
theorem OkEv.mono {es : List EvT} {e : EvT} {G' : Nat → List Tn} (h : OkEv ev n G es e) (hG : ∀ (d j : Nat) (v : Tn), (G d)[j]? = some v → (G' d)[j]? = some v) : OkEv ev n G' es e := by
  cases h with
  | take hd hk hn hv ho => exact .take hd hk hn (hG _ _ _ hv) ho
  | work hd hk hr hv ho => exact .work hd hk hr hv ho
  | send hd hk a hi hv h0 h1 ht => exact .send hd hk a hi hv h0 h1 ht
  | recv hd hk ho s hs sk sd se st sv ht => exact .recv hd hk ho s hs sk sd se st sv ht
theorem Good.mono {es : List EvT} {G' : Nat → List Tn} (h : Good ev n G es) (hG : ∀ (d j : Nat) (v : Tn), (G d)[j]? = some v → (G' d)[j]? = some v) : Good ev n G' es := by
  induction h with
  | nil => exact .nil
  | snoc _ he ih => exact .snoc ih (he.mono hG)

/-- each event stands behind what lets it be done -/
theorem Good.split {es : List EvT} (h : Good ev n G es) : ∀ a e b, es = a ++ e :: b → OkEv ev n G a e := by
  induction h with
  | nil => intro a e b h; simp at h
  | snoc hg he ih =>
    rename_i es e
    intro a x b hab
    rcases List.eq_nil_or_concat b with rfl | ⟨b', y, rfl⟩
    · have h1 := List.append_inj' hab rfl
      obtain ⟨rfl, h2⟩ := h1
      injection h2 with h2; subst h2; exact he
    · have h1 : es ++ [e] = (a ++ x :: b') ++ [y] := by simpa using hab
      have h2 := List.append_inj' h1 rfl
      exact ih a x b' h2.1

theorem filter_get {α : Type} (p : α → Bool) : ∀ (l : List α) (j : Nat) (x : α), (l.filter p)[j]? = some x → ∃ a b, l = a ++ x :: b ∧ a.filter p = (l.filter p).take j ∧ p x = true
  | [], j, x, h => by simp at h
  | y :: l, j, x, h => by
    by_cases hp : p y = true
    · rw [List.filter_cons_of_pos hp] at h ⊢
      cases j with
      | zero =>
        simp at h; subst h
        exact ⟨[], l, rfl, by simp, hp⟩
      | succ j =>
        obtain ⟨a, b, h1, h2, h3⟩ := filter_get p l j x (by simpa using h)
        exact ⟨y :: a, b, by simp [h1], by rw [List.filter_cons_of_pos hp, h2]; simp, h3⟩
    · rw [List.filter_cons_of_neg hp] at h ⊢
      obtain ⟨a, b, h1, h2, h3⟩ := filter_get p l j x h
      exact ⟨y :: a, b, by simp [h1], by rw [List.filter_cons_of_neg hp, h2], h3⟩

theorem filter_mem_get {α : Type} (p : α → Bool) (a b : List α) (x : α) (hp : p x = true) : ((a ++ x :: b).filter p)[(a.filter p).length]? = some x := by
  rw [List.filter_append, List.filter_cons_of_pos hp]
  simp

/-- the j-th of a device's -/
theorem Good.at {es : List EvT} (h : Good ev n G es) {d j : Nat} {e : EvT} (he : (evd es d)[j]? = some e) : ∃ a b, es = a ++ e :: b ∧ evd a d = (evd es d).take j ∧ e.d = d ∧ OkEv ev n G a e := by
  obtain ⟨a, b, h1, h2, h3⟩ := filter_get _ es j e he
  exact ⟨a, b, h1, h2, by simpa using h3, h.split a e b h1⟩

/-- where an event stands in its device's row -/
theorem idx_of {es a b : List EvT} {e : EvT} (h : es = a ++ e :: b) : (evd es e.d)[(evd a e.d).length]? = some e := by
  subst h; exact filter_mem_get _ a b e (by simp)

theorem Good.lt {es : List EvT} (h : Good ev n G es) {e : EvT} (he : e ∈ es) : e.d < n := by
  obtain ⟨a, b, rfl⟩ := List.append_of_mem he
  exact (h.split a e b rfl).lt

/-- one tag, one send -/
theorem Good.sends {es : List EvT} (h : Good ev n G es) {a b a' b' : List EvT} {s s' : EvT} (h1 : es = a ++ s :: b) (h2 : es = a' ++ s' :: b') (k1 : s.i.kind = 3) (k2 : s'.i.kind = 3) (ht : s.i.tag = s'.i.tag) : a = a' ∧ s = s' := by
  have key : ∀ (a b a' b' : List EvT) (s s' : EvT), es = a ++ s :: b → es = a' ++ s' :: b' → s.i.kind = 3 → s'.i.kind = 3 → s.i.tag = s'.i.tag → ¬ a.length < a'.length := by
    intro a b a' b' s s' h1 h2 k1 k2 ht hl
    have hm : s ∈ a' := by
      have h3 : es[a.length]? = some s := by rw [h1]; simp
      rw [h2, List.getElem?_append_left hl] at h3
      exact List.mem_of_getElem? h3
    have := h.split a' s' b' h2
    cases this with
    | send hd hk x hi hv h0 h1 ht' => exact ht' s hm k1 ht
    | take hd hk => omega
    | work hd hk => omega
    | recv hd hk => omega
  have e1 := key a b a' b' s s' h1 h2 k1 k2 ht
  have e2 := key a' b' a b s' s h2 h1 k2 k1 ht.symm
  have hl : a.length = a'.length := by omega
  obtain ⟨h3, h4⟩ := List.append_inj (h1.symm.trans h2) hl
  exact ⟨h3, by injection h4⟩
theorem Good.recvs {es : List EvT} (h : Good ev n G es) {a b a' b' : List EvT} {s s' : EvT} (h1 : es = a ++ s :: b) (h2 : es = a' ++ s' :: b') (k1 : s.i.kind = 4) (k2 : s'.i.kind = 4) (ht : s.i.tag = s'.i.tag) : a = a' ∧ s = s' := by
  have key : ∀ (a b a' b' : List EvT) (s s' : EvT), es = a ++ s :: b → es = a' ++ s' :: b' → s.i.kind = 4 → s'.i.kind = 4 → s.i.tag = s'.i.tag → ¬ a.length < a'.length := by
    intro a b a' b' s s' h1 h2 k1 k2 ht hl
    have hm : s ∈ a' := by
      have h3 : es[a.length]? = some s := by rw [h1]; simp
      rw [h2, List.getElem?_append_left hl] at h3
      exact List.mem_of_getElem? h3
    have := h.split a' s' b' h2
    cases this with
    | recv hd hk ho s' hs sk sd se st sv ht' => exact ht' s hm k1 ht
    | take hd hk => omega
    | work hd hk => omega
    | send hd hk => omega
  have e1 := key a b a' b' s s' h1 h2 k1 k2 ht
  have e2 := key a' b' a b s' s h2 h1 k2 k1 ht.symm
  have hl : a.length = a'.length := by omega
  obtain ⟨h3, h4⟩ := List.append_inj (h1.symm.trans h2) hl
  exact ⟨h3, by injection h4⟩
end

/-! ### Machines -/
structure Dev where
  p : List Inst
  pc : Nat
  regs : List (Int × Tn)
  given : List Tn

structure Mac where
  l : List Dev
  bag : List (Key3 × Tn)
  sent : Nat

def Dev0 : Dev := ⟨[], 0, [], []⟩
def Mac.dev (m : Mac) (d : Nat) : Dev := m.l.getD d Dev0
def nextI (m : Mac) (d : Nat) : Option Inst := (m.dev d).p[(m.dev d).pc]?
/-- can it step? -/
def canM (m : Mac) (d : Nat) : Bool := match nextI m d with
  | none => false
  | some i => !decide (i.kind = 4) || (lkE m.bag (i.dev, (d : Int), i.tag)).isSome
def haltM (m : Mac) : Bool := m.l.all fun x => decide (x.p.length ≤ x.pc)

def valM (ev : EvF) (m : Mac) (d : Nat) (i : Inst) : Option Tn :=
  if i.kind = 1 then (m.dev d).given[i.n.toNat]?
  else if i.kind = 2 then ev i.node (i.inn.map fun r => (lkE (m.dev d).regs r).getD Tn0)
  else if i.kind = 3 then lkE (m.dev d).regs (i.inn.headD 0)
  else lkE m.bag (i.dev, (d : Int), i.tag)

def doM (m : Mac) (d : Nat) (i : Inst) (v : Tn) : Mac :=
  if i.kind = 3 then ⟨m.l.set d { m.dev d with pc := (m.dev d).pc + 1 }, m.bag ++ [(((d : Int), i.dev, i.tag), v)], m.sent + 1⟩
  else ⟨m.l.set d { m.dev d with pc := (m.dev d).pc + 1, regs := putE (m.dev d).regs i.out v }, if i.kind = 4 then delE m.bag (i.dev, (d : Int), i.tag) else m.bag, m.sent⟩

def stepM (ev : EvF) (m : Mac) (d : Nat) : Mac :=
  if canM m d then match nextI m d with
    | some i => match valM ev m d i with
      | some v => doM m d i v
      | none => m
    | none => m
  else m

def cnt (k : Int) (l : List EvT) : Nat := (l.filter fun e => decide (e.i.kind = k)).length
def tot (f : Nat → Nat) : Nat → Nat
  | 0 => 0
  | n + 1 => tot f n + f n
theorem tot_le {f g : Nat → Nat} : ∀ n, (∀ d, d < n → f d ≤ g d) → tot f n ≤ tot g n
  | 0, _ => Nat.le_refl _
  | n + 1, h => Nat.add_le_add (tot_le n fun d hd => h d (by omega)) (h n (by omega))
theorem tot_congr {f g : Nat → Nat} : ∀ n, (∀ d, d < n → f d = g d) → tot f n = tot g n
  | 0, _ => rfl
  | n + 1, h => by rw [tot, tot, tot_congr n fun d hd => h d (by omega), h n (by omega)]
theorem tot_add (f g : Nat → Nat) : ∀ n, tot (fun d => f d + g d) n = tot f n + tot g n
  | 0 => rfl
  | n + 1 => by simp only [tot, tot_add f g n]; omega
theorem tot_one {d : Nat} (c : Nat) : ∀ n, tot (fun x => if x = d then c else 0) n = if d < n then c else 0
  | 0 => by simp [tot]
  | n + 1 => by
    rw [tot, tot_one c n]
    by_cases h : n = d
    · subst h; simp
    · rw [if_neg h]
      by_cases h2 : d < n
      · rw [if_pos h2, if_pos (by omega), Nat.add_zero]
      · rw [if_neg h2, if_neg (by omega)]
theorem tot_upd {f g : Nat → Nat} {n d c : Nat} (hd : d < n) (h : ∀ x, x < n → g x = f x + if x = d then c else 0) : tot g n = tot f n + c := by
  rw [tot_congr n h, tot_add, tot_one, if_pos hd]
theorem tot_zero {f : Nat → Nat} : ∀ {n}, tot f n = 0 → ∀ d, d < n → f d = 0
  | 0, _, d, hd => by omega
  | n + 1, h, d, hd => by
    rw [tot] at h
    by_cases e : d = n
    · subst e; omega
    · exact tot_zero (n := n) (by omega) d (by omega)

/-- what device d has done -/
def didE (es : List EvT) (m : Mac) (d : Nat) : List EvT := (evd es d).take (m.dev d).pc

structure MInv (es : List EvT) (n : Nat) (G : Nat → List Tn) (m : Mac) : Prop where
  len : m.l.length = n
  prog : ∀ d, d < n → (m.dev d).p = progE es d
  given : ∀ d, d < n → (m.dev d).given = G d
  pc : ∀ d, d < n → (m.dev d).pc ≤ (evd es d).length
  regs : ∀ d, d < n → ∀ r : Int, lkE (m.dev d).regs r = if 0 ≤ r then (vsE (didE es m d))[r.toNat]? else none
  bag : ∀ (fr to tag : Int) (v : Tn), lkE m.bag (fr, to, tag) = some v ↔ (∃ s, 0 ≤ fr ∧ s ∈ didE es m fr.toNat ∧ s.i.kind = 3 ∧ s.i.dev = to ∧ s.i.tag = tag ∧ s.v = v) ∧ ¬ ∃ r, r ∈ didE es m to.toNat ∧ r.i.kind = 4 ∧ r.i.tag = tag
  cau : ∀ (d : Nat) (r : EvT), r ∈ didE es m d → r.i.kind = 4 → ∃ s, s ∈ didE es m s.d ∧ s.i.kind = 3 ∧ s.i.tag = r.i.tag
  nodup : (m.bag.map (·.1)).Nodup
  sent : m.sent = tot (fun d => cnt 3 (didE es m d)) n
  under : m.bag.length + tot (fun d => cnt 4 (didE es m d)) n = m.sent

section
variable {ev : EvF} {n : Nat} {G : Nat → List Tn} {es : List EvT} {m : Mac}

theorem MInv.next (h : MInv es n G m) {d : Nat} (hd : d < n) : nextI m d = ((evd es d)[(m.dev d).pc]?).map (·.i) := by
  unfold nextI
  rw [h.prog d hd, progE, List.getElem?_map]

theorem dev_set {l : List Dev} {d : Nat} {x : Dev} (hd : d < l.length) (y : Nat) (b : List (Key3 × Tn)) (s : Nat) : (Mac.mk (l.set d x) b s).dev y = if y = d then x else (Mac.mk l b s).dev y := by
  unfold Mac.dev
  by_cases e : y = d
  · subst e; simp [List.getD_eq_getElem?_getD, List.getElem?_set_self hd]
  · rw [if_neg e]; simp [List.getD_eq_getElem?_getD, List.getElem?_set_ne (Ne.symm e)]

theorem vsE_snoc (l : List EvT) (e : EvT) : vsE (l ++ [e]) = if e.i.kind = 3 then vsE l else vsE l ++ [e.v] := by
  rw [vsE_append]
  by_cases h : e.i.kind = 3 <;> simp [vsE, wr, h]
theorem cnt_snoc (k : Int) (l : List EvT) (e : EvT) : cnt k (l ++ [e]) = cnt k l + if e.i.kind = k then 1 else 0 := by
  unfold cnt
  rw [List.filter_append, List.length_append]
  by_cases h : e.i.kind = k <;> simp [h]

theorem mem_evd {e : EvT} {d : Nat} : e ∈ evd es d ↔ e ∈ es ∧ e.d = d := by simp [evd]
theorem mem_did {e : EvT} {d : Nat} (h : e ∈ didE es m d) : e ∈ es ∧ e.d = d := mem_evd.1 (List.mem_of_mem_take h)

/-- an event is done or it is not -/
theorem did_iff {a b : List EvT} {e : EvT} (h : es = a ++ e :: b) (hg : Good ev n G es) (hk : e.i.kind = 3 ∨ e.i.kind = 4) : e ∈ didE es m e.d ↔ (evd a e.d).length < (m.dev e.d).pc := by
  have h1 := idx_of h
  constructor
  · intro h2
    unfold didE at h2
    obtain ⟨j, hjx⟩ := List.mem_iff_getElem?.1 h2
    rw [List.getElem?_take] at hjx
    split at hjx
    · rename_i hlt
      obtain ⟨a', b', e1, e2, _, _⟩ := hg.at hjx
      have : a = a' := by
        rcases hk with hk | hk
        · exact (hg.sends h e1 hk hk rfl).1
        · exact (hg.recvs h e1 hk hk rfl).1
      subst this
      rw [e2, List.length_take]
      omega
    · cases hjx
  · intro h2
    unfold didE
    refine List.mem_of_getElem? (i := (evd a e.d).length) ?_
    rw [List.getElem?_take, if_pos h2]
    exact h1

/-- what it does next can be done -/
theorem MInv.val (h : MInv es n G m) (hg : Good ev n G es) {d : Nat} (hd : d < n) {e : EvT} (he : (evd es d)[(m.dev d).pc]? = some e) (hc : canM m d = true) :
    valM ev m d e.i = some e.v ∧ (e.i.kind = 3 → lkE m.bag ((d : Int), e.i.dev, e.i.tag) = none) := by
  obtain ⟨a, b, h1, h2, h3, h4⟩ := hg.at he
  have h2' : evd a e.d = didE es m d := by rw [h3]; exact h2
  have hvs : valE a e.d = vsE (didE es m d) := by unfold valE; rw [h2']
  have hreg : ∀ r : Int, 0 ≤ r → r.toNat < (valE a e.d).length → (lkE (m.dev d).regs r).getD Tn0 = (valE a e.d).getD r.toNat Tn0 := by
    intro r h0 hr
    rw [h.regs d hd r, if_pos h0, ← hvs, List.getD_eq_getElem?_getD]
  cases h4 with
  | take hd' hk hn hv ho =>
    refine ⟨?_, by omega⟩
    unfold valM
    rw [if_pos hk, h.given d hd, ← h3]
    exact hv
  | work hd' hk hr hv ho =>
    refine ⟨?_, by omega⟩
    unfold valM
    rw [if_neg (by omega), if_pos hk, ← hv]
    congr 1
    refine List.map_congr_left fun r hr' => ?_
    exact hreg r (hr r hr').1 (hr r hr').2
  | send hd' hk x hi hv h0 h1' ht =>
    constructor
    · unfold valM
      rw [if_neg (by omega), if_neg (by omega), if_pos hk, hi]
      show lkE (m.dev d).regs (x : Int) = _
      rw [h.regs d hd, if_pos (by omega), ← hvs]
      simpa using hv
    · intro _
      cases hb : lkE m.bag ((d : Int), e.i.dev, e.i.tag) with
      | none => rfl
      | some v =>
        obtain ⟨⟨s, _, hs, sk, sd, st, _⟩, _⟩ := (h.bag _ _ _ _).1 hb
        have hs' : s ∈ a := by
          have : s ∈ evd a e.d := by rw [h2']; exact hs
          exact (List.mem_filter.1 this).1
        exact absurd st (ht s hs' sk)
  | recv hd' hk ho s hs sk sd se st sv ht =>
    refine ⟨?_, by omega⟩
    unfold valM
    rw [if_neg (by omega), if_neg (by omega), if_neg (by omega)]
    have hn : nextI m d = some e.i := by rw [h.next hd, he]; rfl
    unfold canM at hc
    rw [hn] at hc
    simp only [hk, decide_true, Bool.not_true, Bool.false_or] at hc
    cases hb : lkE m.bag (e.i.dev, (d : Int), e.i.tag) with
    | none => rw [hb] at hc; cases hc
    | some v =>
      obtain ⟨⟨s', h0, hs', sk', sd', st', sv'⟩, _⟩ := (h.bag _ _ _ _).1 hb
      obtain ⟨a1, b1, q1⟩ := List.append_of_mem (mem_did hs').1
      have hs2 : s ∈ es := by rw [h1]; exact List.mem_append_left _ hs
      obtain ⟨a2, b2, q2⟩ := List.append_of_mem hs2
      have := (hg.sends q1 q2 sk' sk (by rw [st', st])).2
      rw [← sv', this, sv]

theorem did_other {d' : Nat} {m' : Mac} (h : m'.dev d' = m.dev d') : didE es m' d' = didE es m d' := by unfold didE; rw [h]
theorem did_next {d : Nat} {m' : Mac} {e : EvT} (he : (evd es d)[(m.dev d).pc]? = some e) (h : (m'.dev d).pc = (m.dev d).pc + 1) : didE es m' d = didE es m d ++ [e] := by
  unfold didE
  rw [h, List.take_add_one, he]
  rfl

theorem doM_dev {i : Inst} {v : Tn} {d : Nat} (hd : d < m.l.length) (y : Nat) : (doM m d i v).dev y = if y = d then { m.dev d with pc := (m.dev d).pc + 1, regs := if i.kind = 3 then (m.dev d).regs else putE (m.dev d).regs i.out v } else m.dev y := by
  unfold doM
  by_cases hk : i.kind = 3
  · rw [if_pos hk, dev_set hd]; simp [hk]; rfl
  · rw [if_neg hk, dev_set hd]; simp [hk]; rfl

theorem MInv.step (h : MInv es n G m) (hg : Good ev n G es) {d : Nat} (hd : d < n) {e : EvT} (he : (evd es d)[(m.dev d).pc]? = some e) (hc : canM m d = true) : MInv es n G (doM m d e.i e.v) := by
  obtain ⟨a, b, h1, h2, h3, h4⟩ := hg.at he
  have hl : d < m.l.length := by rw [h.len]; exact hd
  have hdev := doM_dev (m := m) (i := e.i) (v := e.v) hl
  have hdid : ∀ y, didE es (doM m d e.i e.v) y = if y = d then didE es m d ++ [e] else didE es m y := by
    intro y
    by_cases hy : y = d
    · subst hy; rw [if_pos rfl]
      exact did_next he (by rw [hdev]; simp)
    · rw [if_neg hy]
      exact did_other (by rw [hdev, if_neg hy])
  have hkind := h4.kind
  have hvn := h.val hg hd he hc
  have hpc : (evd a d).length = (m.dev d).pc := by
    have := (List.getElem?_eq_some_iff.1 he).1
    rw [h2, List.length_take]; omega
  have hnot : e.i.kind = 3 ∨ e.i.kind = 4 → e ∉ didE es m e.d := fun hk hm => by
    have := (did_iff (m := m) h1 hg hk).1 hm
    rw [h3] at this
    omega
  have hmem : ∀ (x : EvT) (y : Nat), x ∈ didE es (doM m d e.i e.v) y ↔ x ∈ didE es m y ∨ (y = d ∧ x = e) := by
    intro x y
    rw [hdid]
    by_cases hy : y = d
    · subst hy; simp
    · simp [hy]
  have hsame : ∀ (x : EvT) (y : Nat), x ∈ didE es m y → x.i.kind = 3 → e.i.kind = 3 → x.i.tag = e.i.tag → False := by
    intro x y hx k1 k2 ht
    obtain ⟨a3, b3, q3⟩ := List.append_of_mem (mem_did hx).1
    obtain ⟨_, u2⟩ := hg.sends q3 h1 k1 k2 ht
    subst u2
    exact hnot (.inl k2) (by rw [(mem_did hx).2]; exact hx)
  refine ⟨?_, ?_, ?_, ?_, ?_, ?_, ?_, ?_, ?_, ?_⟩
  · unfold doM; split <;> simp [h.len]
  · intro y hy; rw [hdev]; split
    · rename_i e1; subst e1; exact h.prog _ hy
    · exact h.prog y hy
  · intro y hy; rw [hdev]; split
    · rename_i e1; subst e1; exact h.given _ hy
    · exact h.given y hy
  · intro y hy; rw [hdev]; split
    · rename_i e1; subst e1
      have := (List.getElem?_eq_some_iff.1 he).1
      show (m.dev y).pc + 1 ≤ _
      omega
    · exact h.pc y hy
  · intro y hy r
    rw [hdid, hdev]
    by_cases hyd : y = d
    · subst hyd
      rw [if_pos rfl, if_pos rfl, vsE_snoc]
      have hr := h.regs y hy r
      by_cases hk : e.i.kind = 3
      · simp only [hk, if_true]; exact hr
      · simp only [hk, if_false]
        have ho : e.i.out = ((vsE (didE es m y)).length : Int) := by
          have hv : valE a e.d = vsE (didE es m y) := by unfold valE; rw [h3, h2]; rfl
          rw [← hv]
          cases h4 <;> first | assumption | (exfalso; omega)
        rw [lkE_put, ho, hr]
        by_cases hrr : (((vsE (didE es m y)).length : Nat) : Int) = r
        · subst hrr; simp
        · rw [if_neg hrr]
          by_cases h0 : 0 ≤ r
          · rw [if_pos h0, if_pos h0, List.getElem?_append]
            split
            · rfl
            · rw [List.getElem?_eq_none (by omega), List.getElem?_eq_none (by simp; omega)]
          · rw [if_neg h0, if_neg h0]
    · rw [if_neg hyd, if_neg hyd]; exact h.regs y hy r
  · intro fr to tag v
    have hbag := h.bag fr to tag v
    by_cases hk3 : e.i.kind = 3
    · have hb : (doM m d e.i e.v).bag = m.bag ++ [(((d : Int), e.i.dev, e.i.tag), e.v)] := by unfold doM; rw [if_pos hk3]
      have hnone := hvn.2 hk3
      have hr : (∃ r, r ∈ didE es (doM m d e.i e.v) to.toNat ∧ r.i.kind = 4 ∧ r.i.tag = tag) ↔ ∃ r, r ∈ didE es m to.toNat ∧ r.i.kind = 4 ∧ r.i.tag = tag := by
        constructor
        · rintro ⟨r, hr, hk, ht⟩
          rcases (hmem r _).1 hr with hr | ⟨_, rfl⟩
          · exact ⟨r, hr, hk, ht⟩
          · omega
        · rintro ⟨r, hr, hk, ht⟩; exact ⟨r, (hmem r _).2 (.inl hr), hk, ht⟩
      rw [hb, lkE_snoc, hr]
      by_cases hkey : ((d : Int), e.i.dev, e.i.tag) = (fr, to, tag)
      · rw [if_pos hkey]
        simp only [Prod.mk.injEq] at hkey
        obtain ⟨rfl, rfl, rfl⟩ := hkey
        rw [hnone, Option.none_or]
        simp only [Option.some.injEq]
        constructor
        · rintro rfl
          refine ⟨⟨e, by omega, (hmem _ _).2 (.inr ⟨by simp, rfl⟩), hk3, rfl, rfl, rfl⟩, ?_⟩
          rintro ⟨r, hr, hk, ht⟩
          obtain ⟨s, hs, sk, st⟩ := h.cau _ r hr hk
          exact hsame s _ hs sk hk3 (by rw [st, ht])
        · rintro ⟨⟨s, _, hs, sk, sd, st, sv⟩, _⟩
          rcases (hmem s _).1 hs with hs | ⟨_, rfl⟩
          · exact (hsame s _ hs sk hk3 st).elim
          · exact sv
      · rw [if_neg hkey]
        rw [Option.or_none, hbag]
        refine and_congr_left fun _ => ⟨?_, ?_⟩
        · rintro ⟨s, h0, hs, q⟩; exact ⟨s, h0, (hmem _ _).2 (.inl hs), q⟩
        · rintro ⟨s, h0, hs, sk, sd, st, sv⟩
          rcases (hmem s _).1 hs with hs | ⟨hd', rfl⟩
          · exact ⟨s, h0, hs, sk, sd, st, sv⟩
          · exact absurd (by simp only [Prod.mk.injEq]; exact ⟨by rw [← hd']; exact Int.toNat_of_nonneg h0, sd, st⟩) hkey
    · have hs3 : (∃ s, 0 ≤ fr ∧ s ∈ didE es (doM m d e.i e.v) fr.toNat ∧ s.i.kind = 3 ∧ s.i.dev = to ∧ s.i.tag = tag ∧ s.v = v) ↔ ∃ s, 0 ≤ fr ∧ s ∈ didE es m fr.toNat ∧ s.i.kind = 3 ∧ s.i.dev = to ∧ s.i.tag = tag ∧ s.v = v := by
        constructor
        · rintro ⟨s, h0, hs, sk, q⟩
          rcases (hmem s _).1 hs with hs | ⟨_, rfl⟩
          · exact ⟨s, h0, hs, sk, q⟩
          · omega
        · rintro ⟨s, h0, hs, q⟩; exact ⟨s, h0, (hmem _ _).2 (.inl hs), q⟩
      by_cases hk4 : e.i.kind = 4
      · have hb : (doM m d e.i e.v).bag = delE m.bag (e.i.dev, (d : Int), e.i.tag) := by unfold doM; rw [if_neg hk3]; simp [hk4]
        rw [hb, lkE_del, hs3]
        by_cases hkey : (e.i.dev, (d : Int), e.i.tag) = (fr, to, tag)
        · rw [if_pos hkey]
          simp only [Prod.mk.injEq] at hkey
          obtain ⟨rfl, rfl, rfl⟩ := hkey
          constructor
          · intro hc'; cases hc'
          · rintro ⟨_, hno⟩
            exact absurd ⟨e, (hmem _ _).2 (.inr ⟨by simp, rfl⟩), hk4, rfl⟩ hno
        · rw [if_neg hkey, hbag]
          refine and_congr_right fun hs => not_congr ⟨?_, ?_⟩
          · rintro ⟨r, hr, q⟩; exact ⟨r, (hmem _ _).2 (.inl hr), q⟩
          · rintro ⟨r, hr, hk, ht⟩
            rcases (hmem r _).1 hr with hr | ⟨hd', rfl⟩
            · exact ⟨r, hr, hk, ht⟩
            · exfalso
              obtain ⟨s, h0, hs, sk, sd, st, sv⟩ := hs
              cases h4 with
              | take _ hk' => omega
              | work _ hk' => omega
              | send _ hk' => omega
              | recv _ _ ho s0 hs0 sk0 sd0 se0 st0 sv0 ht0 =>
                obtain ⟨a3, b3, q3⟩ := List.append_of_mem (mem_did hs).1
                have hs2 : s0 ∈ es := by rw [h1]; exact List.mem_append_left _ hs0
                obtain ⟨a4, b4, q4⟩ := List.append_of_mem hs2
                obtain ⟨_, u2⟩ := hg.sends q3 q4 sk sk0 (by rw [st, st0, ht])
                subst u2
                have hsd := (mem_did hs).2
                apply hkey
                simp only [Prod.mk.injEq]
                exact ⟨by omega, by omega, ht⟩
      · have hb : (doM m d e.i e.v).bag = m.bag := by unfold doM; rw [if_neg hk3]; simp [hk4]
        rw [hb, hs3, hbag]
        refine and_congr_right fun _ => not_congr ⟨?_, ?_⟩
        · rintro ⟨r, hr, q⟩; exact ⟨r, (hmem _ _).2 (.inl hr), q⟩
        · rintro ⟨r, hr, hk, ht⟩
          rcases (hmem r _).1 hr with hr | ⟨_, rfl⟩
          · exact ⟨r, hr, hk, ht⟩
          · exact absurd hk hk4
  · intro y r hr hk
    rcases (hmem r _).1 hr with hr | ⟨_, rfl⟩
    · obtain ⟨s, hs, q⟩ := h.cau y r hr hk
      exact ⟨s, (hmem _ _).2 (.inl hs), q⟩
    · have hn : nextI m d = some r.i := by rw [h.next hd, he]; rfl
      unfold canM at hc
      rw [hn] at hc
      simp only [hk, decide_true, Bool.not_true, Bool.false_or] at hc
      cases hb : lkE m.bag (r.i.dev, (d : Int), r.i.tag) with
      | none => rw [hb] at hc; cases hc
      | some v =>
        obtain ⟨⟨s', h0, hs', sk', sd', st', sv'⟩, _⟩ := (h.bag _ _ _ _).1 hb
        exact ⟨s', (hmem _ _).2 (.inl (by rw [(mem_did hs').2]; exact hs')), sk', st'⟩
  · unfold doM
    split
    · exact nodup_snoc h.nodup (hvn.2 (by assumption))
    · show (List.map _ (if _ then _ else _)).Nodup
      split
      · exact nodup_del h.nodup
      · exact h.nodup
  · have hs : (doM m d e.i e.v).sent = m.sent + if e.i.kind = 3 then 1 else 0 := by unfold doM; split <;> rfl
    rw [hs, h.sent]
    refine (tot_upd hd fun x hx => ?_).symm
    rw [hdid]
    by_cases hxd : x = d
    · subst hxd; simp only [if_true]; exact cnt_snoc 3 _ e
    · simp [hxd]
  · have hs : (doM m d e.i e.v).sent = m.sent + if e.i.kind = 3 then 1 else 0 := by unfold doM; split <;> rfl
    have ht : tot (fun y => cnt 4 (didE es (doM m d e.i e.v) y)) n = tot (fun y => cnt 4 (didE es m y)) n + if e.i.kind = 4 then 1 else 0 := by
      refine tot_upd hd fun x hx => ?_
      rw [hdid]
      by_cases hxd : x = d
      · subst hxd; simp only [if_true]; exact cnt_snoc 4 _ e
      · simp [hxd]
    have hl' : (doM m d e.i e.v).bag.length + (if e.i.kind = 4 then 1 else 0) = m.bag.length + if e.i.kind = 3 then 1 else 0 := by
      by_cases hk3 : e.i.kind = 3
      · have hb : (doM m d e.i e.v).bag = m.bag ++ [(((d : Int), e.i.dev, e.i.tag), e.v)] := by unfold doM; rw [if_pos hk3]
        rw [hb]; simp [hk3]
      · by_cases hk4 : e.i.kind = 4
        · have hb : (doM m d e.i e.v).bag = delE m.bag (e.i.dev, (d : Int), e.i.tag) := by unfold doM; rw [if_neg hk3]; simp [hk4]
          have hn : nextI m d = some e.i := by rw [h.next hd, he]; rfl
          unfold canM at hc
          rw [hn] at hc
          simp only [hk4, decide_true, Bool.not_true, Bool.false_or] at hc
          rw [hb, if_pos hk4, del_len h.nodup hc, if_neg hk3]; rfl
        · have hb : (doM m d e.i e.v).bag = m.bag := by unfold doM; rw [if_neg hk3]; simp [hk4]
          rw [hb, if_neg hk4, if_neg hk3]
    have := h.under
    rw [hs, ht]
    omega

/-- its step -/
theorem MInv.doneM (h : MInv es n G m) (hg : Good ev n G es) {d : Nat} (hd : d < n) : MInv es n G (stepM ev m d) := by
  unfold stepM
  split
  · rename_i hc
    cases he : (evd es d)[(m.dev d).pc]? with
    | none =>
      have hn : nextI m d = none := by rw [h.next hd, he]; rfl
      rw [hn]; exact h
    | some e =>
      have hn : nextI m d = some e.i := by rw [h.next hd, he]; rfl
      rw [hn]
      have := h.val hg hd he hc
      simp only [this.1]
      exact h.step hg hd he hc
  · exact h
end

end Go.Proofs.YtgbhegmhbeekpaaGreat
