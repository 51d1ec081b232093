/-
  Messages in order: the pure side; what the sort hands back.
-/
import Derived.Test.YtgbhegmhbeekpaaGreatB7
import Derived.Test.YtgbhegmhbeekpaaGreatFrSort
namespace Go.Proofs.YtgbhegmhbeekpaaGreat
open Go
set_option maxRecDepth 100000

def lt3 (a b : Key3) : Prop := a.1 < b.1 ∨ (a.1 = b.1 ∧ (a.2.1 < b.2.1 ∨ (a.2.1 = b.2.1 ∧ a.2.2 < b.2.2)))
theorem lt3_irrefl (a : Key3) : ¬ lt3 a a := by unfold lt3; omega
theorem lt3_trans {a b c : Key3} (h : lt3 a b) (h' : lt3 b c) : lt3 a c := by unfold lt3 at *; omega
theorem lt3_asymm {a b : Key3} (h : lt3 a b) : ¬ lt3 b a := by unfold lt3 at *; omega
theorem lt3_ntrans {a b c : Key3} (h : ¬ lt3 b a) (h' : ¬ lt3 c b) : ¬ lt3 c a := by unfold lt3 at *; omega
theorem lt3_total {a b : Key3} (h : ¬ lt3 a b) (h' : ¬ lt3 b a) : a = b := by
  obtain ⟨a1, a2, a3⟩ := a
  obtain ⟨b1, b2, b3⟩ := b
  unfold lt3 at *
  simp only [Prod.mk.injEq] at *
  omega

def mkey (x : Msg) : Key3 := (x.fr, x.to, x.tag)
abbrev toMsg (p : Key3 × Tn) : Msg := ⟨p.1.1, p.1.2.1, p.1.2.2, p.2⟩
theorem mkey_toMsg (p : Key3 × Tn) : mkey (toMsg p) = p.1 := rfl

theorem later_iff (x y : Msg) : later x y = true ↔ lt3 (mkey y) (mkey x) := by
  unfold later lt3 mkey
  by_cases e1 : x.fr = y.fr
  · rw [if_pos e1]
    by_cases e2 : x.to = y.to
    · rw [if_pos e2]; simp only [decide_eq_true_eq]; omega
    · rw [if_neg e2]; simp only [decide_eq_true_eq]; omega
  · rw [if_neg e1]; simp only [decide_eq_true_eq]; omega

theorem cmpI_zero (a b : Int) : cmpI a b = 0 ↔ a = b := by unfold cmpI; split <;> (try split) <;> omega
theorem cmpI_neg (a b : Int) : cmpI a b < 0 ↔ a < b := by unfold cmpI; split <;> (try split) <;> omega
theorem cmp3_neg (x y : Key3) : cmp3 x y < 0 ↔ lt3 x y := by
  have h1 := cmpI_zero x.1 y.1
  have h2 := cmpI_neg x.1 y.1
  have h3 := cmpI_zero x.2.1 y.2.1
  have h4 := cmpI_neg x.2.1 y.2.1
  have h5 := cmpI_neg x.2.2 y.2.2
  show (if cmpI x.1 y.1 = 0 then (if cmpI x.2.1 y.2.1 = 0 then (if cmpI x.2.2 y.2.2 = 0 then 0 else cmpI x.2.2 y.2.2) else cmpI x.2.1 y.2.1) else cmpI x.1 y.1) < 0 ↔ lt3 x y
  unfold lt3
  split
  · split
    · split <;> omega
    · omega
  · omega

def leM (x y : Msg) : Prop := ¬ lt3 (mkey y) (mkey x)

theorem insK_spec (out : List Msg) (x : Msg) : ∀ k, k ≤ out.length → (∀ i y, insK out x k ≤ i → i < k → out[i]? = some y → later y x = true) ∧ (∀ y, 0 < insK out x k → out[insK out x k - 1]? = some y → later y x = false)
  | 0, _ => ⟨fun i y _ h => by omega, fun y h => absurd h (Nat.lt_irrefl 0)⟩
  | k + 1, hk => by
    have hget : out[k]? = some (out[k]'(by omega)) := List.getElem?_eq_getElem (by omega)
    obtain ⟨h1, h2⟩ := insK_spec out x k (by omega)
    unfold insK
    rw [hget]
    simp only
    by_cases e : later (out[k]'(by omega)) x = true
    · rw [if_pos e]
      refine ⟨fun i y hi hi2 hy => ?_, h2⟩
      by_cases e2 : i = k
      · subst e2; rw [hget] at hy; injection hy with hy; rw [← hy]; exact e
      · exact h1 i y hi (by omega) hy
    · rw [if_neg e]
      refine ⟨fun i y hi hi2 => by omega, fun y _ hy => ?_⟩
      rw [Nat.add_sub_cancel, hget] at hy
      injection hy with hy
      rw [← hy]
      simpa using e

theorem ins_perm (out : List Msg) (x : Msg) : (ins out x).Perm (x :: out) := by
  unfold ins
  have h : (out.take (insK out x out.length) ++ [x] ++ out.drop (insK out x out.length)).Perm ([x] ++ out.take (insK out x out.length) ++ out.drop (insK out x out.length)) := List.perm_append_comm.append_right _
  refine h.trans ?_
  rw [List.append_assoc, List.take_append_drop]
  exact List.Perm.refl _

theorem ins_pw {out : List Msg} (h : out.Pairwise leM) (x : Msg) : (ins out x).Pairwise leM := by
  obtain ⟨h1, h2⟩ := insK_spec out x out.length (Nat.le_refl _)
  have hj := insK_le out x out.length
  unfold ins
  generalize insK out x out.length = j at *
  have hd : ∀ b ∈ out.drop j, leM x b := by
    intro b hb
    obtain ⟨i, hi, rfl⟩ := List.mem_iff_getElem.1 hb
    have hi' : j + i < out.length := by simp at hi; omega
    have := h1 (j + i) (out[j + i]) (by omega) hi' (List.getElem?_eq_getElem hi')
    rw [List.getElem_drop]
    exact lt3_asymm ((later_iff _ _).1 this)
  have ht : ∀ a ∈ out.take j, leM a x := by
    intro a ha
    obtain ⟨i, hi, rfl⟩ := List.mem_iff_getElem.1 ha
    have hi' : i < j := by simp at hi; omega
    have hlast := h2 (out[j - 1]'(by omega)) (by omega) (List.getElem?_eq_getElem (by omega))
    have hl : leM (out[j - 1]'(by omega)) x := fun hc => by rw [(later_iff _ _).2 hc] at hlast; cases hlast
    rw [List.getElem_take]
    rcases Nat.lt_or_ge i (j - 1) with h3 | h3
    · exact lt3_ntrans (List.pairwise_iff_getElem.1 h i (j - 1) (by omega) (by omega) h3) hl
    · have : i = j - 1 := by omega
      subst this
      exact hl
  rw [List.pairwise_append, List.pairwise_append]
  refine ⟨⟨h.sublist (List.take_sublist ..), by simp, fun a ha b hb => ?_⟩, h.sublist (List.drop_sublist ..), fun a ha b hb => ?_⟩
  · have : b = x := by simpa using hb
    subst this
    exact ht a ha
  · rcases List.mem_append.1 ha with ha | ha
    · exact lt3_ntrans (ht a ha) (hd b hb)
    · have : a = x := by simpa using ha
      subst this
      exact hd b hb

theorem foldl_ins : ∀ (ms out : List Msg), out.Pairwise leM → (ms.foldl ins out).Pairwise leM ∧ (ms.foldl ins out).Perm (out ++ ms)
  | [], out, h => ⟨h, by simp⟩
  | x :: ms, out, h => by
    obtain ⟨h1, h2⟩ := foldl_ins ms (ins out x) (ins_pw h x)
    refine ⟨h1, h2.trans ?_⟩
    refine ((ins_perm out x).append_right ms).trans ?_
    exact List.perm_middle.symm
theorem sorted_pw (ms : List Msg) : (sorted ms).Pairwise leM := (foldl_ins ms [] List.Pairwise.nil).1
theorem sorted_perm (ms : List Msg) : (sorted ms).Perm ms := by
  have h := (foldl_ins ms [] List.Pairwise.nil).2
  rw [List.nil_append] at h
  exact h

/-- Messages with keys of their own lie in one order alone. -/
theorem sorted_uniq {ms ns : List Msg} (hp : ns.Perm ms) (hs : ns.Pairwise leM) (hk : (ms.map mkey).Nodup) : ns = sorted ms := by
  refine List.Perm.eq_of_pairwise ?_ hs (sorted_pw ms) (hp.trans (sorted_perm ms).symm)
  intro a b ha hb h1 h2
  have e : mkey a = mkey b := (lt3_total h1 h2).symm
  have ha' : a ∈ ms := hp.mem_iff.1 ha
  have hb' : b ∈ ms := (sorted_perm ms).mem_iff.1 hb
  obtain ⟨i, hi, rfl⟩ := List.mem_iff_getElem.1 ha'
  obtain ⟨j, hj, rfl⟩ := List.mem_iff_getElem.1 hb'
  have hn := List.pairwise_iff_getElem.1 (List.nodup_iff_pairwise_ne.1 hk)
  rcases Nat.lt_trichotomy i j with h | h | h
  · exact absurd (by rw [List.getElem_map, List.getElem_map]; exact e) (hn i j (by simpa using hi) (by simpa using hj) h)
  · subst h; rfl
  · exact absurd (by rw [List.getElem_map, List.getElem_map]; exact e.symm) (hn j i (by simpa using hj) (by simpa using hi) h)
theorem sorted_perm_eq {ms ns : List Msg} (hp : ns.Perm ms) (hk : (ms.map mkey).Nodup) : sorted ns = sorted ms :=
  sorted_uniq ((sorted_perm ns).trans hp) (sorted_pw ns) hk

/-! what the sort moves: a message's cells -/
abbrev Cell5 := Key3 × (Option Addr × Nat × Nat) × (Option Addr × Nat × Nat)
def enc5 (e : Cell5) : List Value := [.int .i64 e.1.1, .int .i64 e.1.2.1, .int .i64 e.1.2.2, .slice e.2.1.1 e.2.1.2.1 e.2.1.2.2, .slice e.2.2.1 e.2.2.2.1 e.2.2.2.2]
theorem enc5_len (e : Cell5) : (enc5 e).length = 5 := rfl
theorem enc5_one (e : Cell5) : ∀ v ∈ enc5 e, v.oneCell' = true := by
  intro v hv
  unfold enc5 at hv
  simp only [List.mem_cons, List.not_mem_nil, or_false] at hv
  rcases hv with rfl | rfl | rfl | rfl | rfl <;> rfl
theorem swo5 : Go.Sort.SWO (ltOf fun x y : Cell5 => cmp3 x.1 y.1) where
  irrefl x := by unfold ltOf; simp only [decide_eq_false_iff_not, cmp3_neg]; exact lt3_irrefl _
  trans x y z h1 h2 := by unfold ltOf at *; simp only [decide_eq_true_eq, cmp3_neg] at *; exact lt3_trans h1 h2
  ntrans x y z h1 h2 := by unfold ltOf at *; simp only [decide_eq_false_iff_not, cmp3_neg] at *; exact lt3_ntrans h2 h1

/-- xs are what the cells of d mean -/
inductive Al (M : List Nat) (w : World) : List Msg → List Cell5 → Prop
  | nil : Al M w [] []
  | cons {x : Msg} {e : Cell5} {xs : List Msg} {d : List Cell5} (h : rMsg.p M w x (enc5 e)) (t : Al M w xs d) : Al M w (x :: xs) (e :: d)

theorem Al.len {M : List Nat} {w : World} {xs : List Msg} {d : List Cell5} (h : Al M w xs d) : xs.length = d.length := by
  induction h with
  | nil => rfl
  | cons _ _ ih => simp [ih]
theorem Al.get {M : List Nat} {w : World} {xs : List Msg} {d : List Cell5} (h : Al M w xs d) : ∀ i (hi : i < xs.length) (hd : i < d.length), rMsg.p M w xs[i] (enc5 d[i]) := by
  induction h with
  | nil => intro i hi; simp at hi
  | cons h _ ih =>
    intro i hi hd
    cases i with
    | zero => exact h
    | succ i => exact ih i (by simpa using hi) (by simpa using hd)
theorem Al.of {M : List Nat} {w : World} : ∀ (xs : List Msg) (d : List Cell5), xs.length = d.length → (∀ i (hi : i < xs.length) (hd : i < d.length), rMsg.p M w xs[i] (enc5 d[i])) → Al M w xs d
  | [], [], _, _ => .nil
  | x :: xs, e :: d, hl, h => .cons (h 0 (by simp) (by simp)) (Al.of xs d (by simpa using hl) fun i hi hd => h (i + 1) (by simpa using hi) (by simpa using hd))
  | [], _ :: _, hl, _ => by simp at hl
  | _ :: _, [], hl, _ => by simp at hl
theorem Al.perm {M : List Nat} {w : World} {d d' : List Cell5} (hp : d.Perm d') : ∀ {xs : List Msg}, Al M w xs d → ∃ xs', xs'.Perm xs ∧ Al M w xs' d' := by
  induction hp with
  | nil => intro xs h; exact ⟨xs, List.Perm.refl _, h⟩
  | cons e _ ih =>
    intro xs h
    cases h with
    | cons h t =>
      obtain ⟨xs', h1, h2⟩ := ih t
      exact ⟨_ :: xs', h1.cons _, .cons h h2⟩
  | swap e e' l =>
    intro xs h
    cases h with
    | cons h t =>
      cases t with
      | cons h' t => exact ⟨_, List.Perm.swap _ _ _, .cons h' (.cons h t)⟩
  | trans _ _ ih1 ih2 =>
    intro xs h
    obtain ⟨xs1, h1, h2⟩ := ih1 h
    obtain ⟨xs2, h3, h4⟩ := ih2 h2
    exact ⟨xs2, h3.trans h1, h4⟩
theorem key5 {x : Msg} {e : Cell5} {M : List Nat} {w : World} (h : rMsg.p M w x (enc5 e)) : mkey x = e.1 := by
  obtain ⟨a, n, c, b, m, q, h1, _, _⟩ := h
  unfold enc5 at h1
  simp only [List.cons.injEq, Value.int.injEq, true_and] at h1
  obtain ⟨⟨e1, e2, e3⟩, e4⟩ := e
  unfold mkey
  rw [← h1.1, ← h1.2.1, ← h1.2.2.1]
theorem Al.keys {M : List Nat} {w : World} {xs : List Msg} {d : List Cell5} (h : Al M w xs d) : xs.map mkey = d.map (·.1) := by
  induction h with
  | nil => rfl
  | cons h _ ih => rw [List.map_cons, List.map_cons, ih, key5 h]
theorem Al.ev {M : List Nat} {w : World} {xs : List Msg} {d : List Cell5} (h : Al M w xs d) : EvP rMsg M w xs (fl enc5 5 d) := by
  refine ⟨by rw [fl_len, h.len]; rfl, fun i hi => ?_⟩
  have hd : i < d.length := by rw [← h.len]; exact hi
  show rMsg.p M w xs[i] (((fl enc5 5 d).drop (i * 5)).take 5)
  rw [fl_chunk d enc5_len hd]
  exact h.get i hi hd
theorem ev_al {M : List Nat} {w : World} {xs : List Msg} {cs : List Value} (h : EvP rMsg M w xs cs) : ∃ d, cs = fl enc5 5 d ∧ Al M w xs d := by
  have key : ∀ i (hi : i < xs.length), ∃ e, (cs.drop (i * 5)).take 5 = enc5 e := fun i hi => by
    obtain ⟨a, n, c, b, m, q, h1, _, _⟩ := h.2 i hi
    exact ⟨((xs[i].fr, xs[i].to, xs[i].tag), (a, n, c), (b, m, q)), h1⟩
  have ex : ∀ m, m ≤ xs.length → ∃ d : List Cell5, d.length = m ∧ ∀ i (hi : i < d.length), (cs.drop (i * 5)).take 5 = enc5 d[i] := by
    intro m
    induction m with
    | zero => intro _; exact ⟨[], rfl, fun i hi => by simp at hi⟩
    | succ m ih =>
      intro hm
      obtain ⟨d, h1, h2⟩ := ih (by omega)
      obtain ⟨e, he⟩ := key m (by omega)
      refine ⟨d ++ [e], by simp [h1], fun i hi => ?_⟩
      by_cases hlt : i < d.length
      · rw [List.getElem_append_left hlt]; exact h2 i hlt
      · have : i = m := by simp at hi; omega
        subst this
        have e1 : (d ++ [e])[i] = e := by simp [h1.symm]
        rw [e1]; exact he
  obtain ⟨d, h1, h2⟩ := ex xs.length (Nat.le_refl _)
  have hl : cs.length = d.length * 5 := by rw [h.1, h1]; rfl
  refine ⟨d, (fl_eq d enc5_len cs hl h2).symm, Al.of xs d h1.symm fun i hi hd => ?_⟩
  rw [← h2 i hd]
  exact h.2 i hi
end Go.Proofs.YtgbhegmhbeekpaaGreat
