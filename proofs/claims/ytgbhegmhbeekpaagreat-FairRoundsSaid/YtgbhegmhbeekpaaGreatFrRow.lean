/-
  Rows that the call makes: grown by append, handed back as slices that stay.
-/
import Derived.Test.YtgbhegmhbeekpaaGreatFrOps2

namespace Go.Proofs.YtgbhegmhbeekpaaGreat
open Go

def rOwn (e k : Nat) (v : Value) (n : Nat) (cs : List Value) : Res where
  blks := v.ownBlock.toList
  p w := w.ownsRow 0 e k v n cs
  keep := by
    intro w w' h hs hb
    refine ⟨h.1, ?_⟩
    rcases h.2 with hn | ⟨g, cap, cur, rfl, h1, h2, rest⟩
    · exact .inl hn
    · exact .inr ⟨g, cap, cur, rfl, h1, (hb g (by simp [Value.ownBlock])).trans h2, rest⟩
  lt := by
    intro w h b hb
    have : v.ownBlock = some b := by simpa using hb
    exact (h.lt b this).2

/-- cs are the cells of xs, one behind the other. -/
def EvP {α : Type} (R : Rep α) (M : List Nat) (w : World) (xs : List α) (cs : List Value) : Prop :=
  cs.length = xs.length * R.k ∧ ∀ i (h : i < xs.length), R.p M w xs[i] ((cs.drop (i * R.k)).take R.k)
def aEv {α : Type} (R : Rep α) (xs : List α) (cs : List Value) : Atom :=
  ⟨fun M w => EvP R M w xs cs, fun h k hM => ⟨h.1, fun i hi => R.mov (h.2 i hi) k hM⟩⟩

theorem EvP.nil {α : Type} (R : Rep α) (M : List Nat) (w : World) : EvP R M w [] [] := ⟨by simp, fun i h => by simp at h⟩

theorem EvP.snoc {α : Type} {R : Rep α} {M : List Nat} {w : World} {xs : List α} {cs : List Value} (h : EvP R M w xs cs) {x : α} {c1 : List Value} (hx : R.p M w x c1) : EvP R M w (xs ++ [x]) (cs ++ c1) := by
  have hl := R.len hx
  refine ⟨by simp [h.1, hl, Nat.add_mul], fun i hi => ?_⟩
  by_cases e : i < xs.length
  · have hle : i * R.k + R.k ≤ cs.length := by
      rw [h.1, ← Nat.succ_mul]
      exact Nat.mul_le_mul_right _ e
    rw [List.drop_append_of_le_length (by omega), List.take_append_of_le_length (by simp; omega)]
    have := h.2 i e
    rwa [List.getElem_append_left e]
  · have hi' : i = xs.length := by simp at hi; omega
    subst hi'
    rw [← h.1, List.drop_left]
    have : (xs ++ [x])[xs.length] = x := by simp
    rw [this, List.take_of_length_le (by omega)]
    exact hx

theorem EvP.app {α : Type} {R : Rep α} {M : List Nat} {w : World} {xs ys : List α} {cs ds : List Value} (h : EvP R M w xs cs) (h' : EvP R M w ys ds) : EvP R M w (xs ++ ys) (cs ++ ds) := by
  refine ⟨by simp [h.1, h'.1, Nat.add_mul], fun i hi => ?_⟩
  by_cases e : i < xs.length
  · have hle : i * R.k + R.k ≤ cs.length := by
      rw [h.1, ← Nat.succ_mul]
      exact Nat.mul_le_mul_right _ e
    rw [List.drop_append_of_le_length (by omega), List.take_append_of_le_length (by simp; omega)]
    have := h.2 i e
    rwa [List.getElem_append_left e]
  · have hi2 : i - xs.length < ys.length := by simp at hi; omega
    have h1 := h'.2 (i - xs.length) hi2
    have e1 : i * R.k = cs.length + (i - xs.length) * R.k := by
      rw [h.1, ← Nat.add_mul]; congr 1; omega
    rw [e1, List.drop_append]
    have : (xs ++ ys)[i] = ys[i - xs.length] := List.getElem_append_right (by omega)
    rw [this]
    have e2 : cs.drop (cs.length + (i - xs.length) * R.k) = [] := List.drop_eq_nil_of_le (by omega)
    rw [e2, List.nil_append]
    have e3 : cs.length + (i - xs.length) * R.k - cs.length = (i - xs.length) * R.k := by omega
    rwa [e3]

theorem EvP.ints (k : IntKind) (M : List Nat) (w : World) (xs : List Int) : EvP (rInt k) M w xs (xs.map (.int k)) := by
  refine ⟨by simp [rInt], fun i h => ?_⟩
  show ((xs.map (Value.int k)).drop (i * 1)).take 1 = [.int k xs[i]]
  rw [Nat.mul_one, List.drop_eq_getElem_cons (by simpa using h)]
  simp

/-- What a slice that stays holds. -/
theorem SlP.ev {α : Type} {R : Rep α} {M : List Nat} {w : World} {xs : List α} {a : Option Addr} {n c : Nat} (h : SlP R M w xs a n c) :
    ∃ cs, EvP R M w xs cs ∧ (∀ v ∈ cs, v.oneCell' = true) ∧ (xs ≠ [] → ∃ ad, a = some ad ∧ ∀ j v, cs[j]? = some v → w.cell? (ad.add j) = some v) := by
  obtain ⟨h1, h2, h3, h4, h5⟩ := h
  rcases Nat.eq_zero_or_pos n with h0 | h0
  · have : xs = [] := List.eq_nil_of_length_eq_zero (by omega)
    subst this
    exact ⟨[], EvP.nil R M w, by simp, fun h => absurd rfl h⟩
  cases a with
  | none => have := h4 rfl; omega
  | some ad =>
    obtain ⟨h6, h7, h8⟩ := h5 ad rfl h0
    have key : ∀ m, m ≤ xs.length → ∃ cs, EvP R M w (xs.take m) cs ∧ (∀ v ∈ cs, v.oneCell' = true) ∧ ∀ j v, cs[j]? = some v → w.cell? (ad.add j) = some v := by
      intro m
      induction m with
      | zero => intro _; exact ⟨[], by simpa using EvP.nil R M w, by simp, fun j v h => by simp at h⟩
      | succ m ih =>
        intro hm
        obtain ⟨cs, e1, e2, e3⟩ := ih (by omega)
        obtain ⟨c1, e4, e5⟩ := h8 m (by omega)
        refine ⟨cs ++ c1, ?_, ?_, ?_⟩
        · rw [List.take_succ_eq_append_getElem (by omega)]
          exact e1.snoc e4
        · intro v hv
          rcases List.mem_append.1 hv with hv | hv
          · exact e2 v hv
          · exact R.one e4 v hv
        · intro j v hv
          have hl : cs.length = m * R.k := by rw [e1.1, List.length_take, Nat.min_eq_left (by omega)]
          rw [List.getElem?_append] at hv
          split at hv
          · exact e3 j v hv
          · rename_i hge
            have := e5 _ v hv
            rwa [show m * R.k + (j - cs.length) = j from by omega] at this
    obtain ⟨cs, e1, e2, e3⟩ := key xs.length (Nat.le_refl _)
    rw [List.take_length] at e1
    exact ⟨cs, e1, e2, fun _ => ⟨ad, rfl, e3⟩⟩

/-- A row of the call's own, left to itself, is a slice that stays. -/
theorem own_seal {α : Type} {R : Rep α} {M : List Nat} {w : World} {xs : List α} {e n : Nat} {v : Value} {cs : List Value} (hk : 0 < R.k) (h : w.ownsRow 0 e R.k v n cs) (he : EvP R M w xs cs) (hM : ∀ b, v.ownBlock = some b → b ∉ M) :
    ∃ a c, v = .slice a n c ∧ SlP R M w xs a n c := by
  have hn : n = xs.length := Nat.eq_of_mul_eq_mul_right hk (h.1.symm.trans he.1)
  rcases h.2 with ⟨rfl, h0⟩ | ⟨g, cap, cur, rfl, h1, h2, h3, h4, h5, h6⟩
  · have : xs = [] := List.eq_nil_of_length_eq_zero (by omega)
    subst this; subst h0
    exact ⟨none, 0, rfl, SlP.nil R M w⟩
  · refine ⟨some ⟨g, 0, none⟩, cap, rfl, hn, h3, h4, (fun h => by cases h), fun ad ha h0 => ?_⟩
    injection ha with ha
    subst ha
    refine ⟨hM g rfl, (Array.getElem?_eq_some_iff.1 h2).1, fun i hi => ⟨_, he.2 i hi, fun j u hu => ?_⟩⟩
    rw [addr_add, cell_of_row w g _ cur e (0, 0) h2]
    rw [List.getElem?_take] at hu
    split at hu
    · rename_i hj
      rw [List.getElem?_drop] at hu
      rw [← h6, List.getElem?_take] at hu
      split at hu
      · simpa using hu
      · cases hu
    · cases hu

section
variable {C : Ctx} {own rest own' : List Res} {ats : List Atom} {w : World}

theorem Sel.sub {l l' : List Res} {r : Res} (h : Sel l r l') : l'.Sublist l := by
  induction h with
  | head => exact List.sublist_cons_self _ _
  | tail _ ih => exact ih.cons_cons _

theorem St.leave {α : Type} (R : Rep α) {xs : List α} {e k n : Nat} {v : Value} {cs : List Value} (h : St C own ats w) (hR : R.k = k) (hk : 0 < k) (hs : Sel own (rOwn e k v n cs) rest) (he : In (aEv R xs cs) ats) :
    ∃ a c, v = .slice a n c ∧ St C rest (aSl R xs a n c :: ats) w := by
  subst hR
  have h1 := h.weak hs.sub (fun A hA => hA)
  have hown := h.res hs
  have hnd := (h.perm hs.perm).hp.nd
  rw [bks_cons, List.nodup_append] at hnd
  obtain ⟨a, c, rfl, h2⟩ := own_seal (M := C.M ++ bks rest) hk hown (h1.atom he) (fun b hb hc => by
    have hb' : b ∈ (rOwn e R.k v n cs).blks := by simp [rOwn, hb]
    rcases List.mem_append.1 hc with hc | hc
    · exact (h.perm hs.perm).hp.dj b hc (by rw [bks_cons]; exact List.mem_append_left _ hb')
    · exact hnd.2.2 b hb' b hc rfl)
  exact ⟨a, c, rfl, h1.know _ h2⟩

theorem St.take {α : Type} {R : Rep α} {xs : List α} {a : Option Addr} {n c : Nat} (h : St C own ats w) (hs : In (aSl R xs a n c) ats) {j : Nat} (hj : j ≤ n) : St C own (aSl R (xs.take j) a j c :: ats) w :=
  h.know _ (SlP.take (h.atom hs) hj)
theorem St.drop {α : Type} {R : Rep α} {xs : List α} {a : Option Addr} {n c : Nat} (h : St C own ats w) (hs : In (aSl R xs a n c) ats) {j : Nat} (hj : j ≤ n) : St C own (aSl R (xs.drop j) (sa a c j R.k) (n - j) (c - j) :: ats) w :=
  h.know _ (SlP.drop (h.atom hs) hj)
theorem St.nil {α : Type} (h : St C own ats w) (R : Rep α) : St C own (aSl R [] none 0 0 :: ats) w := h.know _ (SlP.nil R _ _)

/-- A block of the call's own that is a literal, left to itself, is a slice that stays. -/
theorem St.sealB {α : Type} (R : Rep α) {xs : List α} {g e n : Nat} {cs : List Value} (h : St C own ats w) (hs : Sel own (rBlk g e cs) rest) (hk : 0 < R.k) (hl : cs.length = n * R.k) (hm : n ≤ maxLen) (he : (aEv R xs cs).p (C.M ++ bks rest) w) :
    St C rest (aSl R xs (some ⟨g, 0, none⟩) n n :: ats) w := by
  have h1 := h.weak hs.sub (fun A hA => hA)
  have hr : (rBlk g e cs).p w := h.res hs
  have hnd := (h.perm hs.perm).hp.nd
  rw [bks_cons, List.nodup_append] at hnd
  obtain ⟨a, c, h2, h3⟩ := own_seal (M := C.M ++ bks rest) (R := R) (v := .slice (some ⟨g, 0, none⟩) n n) hk ⟨hl, .inr ⟨g, n, cs.toArray, rfl, Nat.zero_le _, hr, Nat.le_refl _, hm, by simp [hl], by rw [← hl]; simp⟩⟩ he (fun b hb hc => by
    have hb' : b ∈ (rBlk g e cs).blks := by simp [Value.ownBlock] at hb; simp [rBlk, hb]
    rcases List.mem_append.1 hc with hc | hc
    · exact (h.perm hs.perm).hp.dj b hc (by rw [bks_cons]; exact List.mem_append_left _ hb')
    · exact hnd.2.2 b hb' b hc rfl)
  injection h2 with h4 h5 h6
  subst h4; subst h6
  exact h1.know _ h3
theorem St.sealI {k : IntKind} (xs : List Int) {g e n : Nat} {cs : List Value} (h : St C own ats w) (hs : Sel own (rBlk g e cs) rest) (hc : cs = xs.map (.int k)) (hl : xs.length = n) (hm : n ≤ maxLen) :
    St C rest (aSl (rInt k) xs (some ⟨g, 0, none⟩) n n :: ats) w := by
  subst hc
  exact h.sealB (rInt k) hs (Nat.zero_lt_one) (by simp [rInt, hl]) hm (EvP.ints k _ _ xs)

/-- A fact out of facts. -/
theorem St.fact (h : St C own ats w) (A : Atom) (hA : ∀ M, (∀ B ∈ ats, B.p M w) → A.p M w) : St C own (A :: ats) w :=
  h.know A (hA _ fun B hB => h.hp.ats B hB)

/-- A block that is one's own is a row of one's own. -/
theorem St.row {g e k n : Nat} {cs : List Value} (h : St C own ats w) (hp : Put own (rBlk g e cs) (rOwn e k (.slice (some ⟨g, 0, none⟩) n n) n cs) own') (hl : cs.length = n * k) (hm : n ≤ maxLen) : St C own' ats w := by
  obtain ⟨rest, h1, h2⟩ := hp.perms
  have hr : (rBlk g e cs).p w := h.hp.has _ (h1.mem_iff.2 (List.mem_cons_self ..))
  refine h.put hp (Kept.refl _ _) ?_ (by simp [rOwn, Value.ownBlock]) (fun b hb => .inl (by simpa [rOwn, rBlk, Value.ownBlock] using hb))
  exact ⟨hl, .inr ⟨g, n, cs.toArray, rfl, Nat.zero_le _, hr, Nat.le_refl _, hm, by simp [hl], by rw [← hl]; simp⟩⟩
/-- nil is a row of no elements. -/
theorem St.rowNil (h : St C own ats w) (e k : Nat) : St C (rOwn e k (.slice none 0 0) 0 [] :: own) ats w :=
  h.new (Kept.refl _ _) (World.ownsRow_nil w 0 e k) (by simp [rOwn, Value.ownBlock]) (by simp [rOwn, Value.ownBlock])
end

theorem V_ghost {P : Program} {ops : Array Oper} {rest : List Oper} {l : LEnv} {C : Ctx} {own own' : List Res} {ats ats' : List Atom} {K : LEnv → World → Prop} (h : ∀ w, St C own ats w → St C own' ats' w) (hr : V P ops rest l C own' ats' K) : V P ops rest l C own ats K :=
  fun w hw => hr w (h w hw)
theorem V_ghostE {P : Program} {ops : Array Oper} {rest : List Oper} {l : LEnv} {C : Ctx} {own : List Res} {ats : List Atom} {K : LEnv → World → Prop} {α : Type} (own' : α → List Res) (ats' : α → List Atom) (φ : α → Prop) (h : ∀ w, St C own ats w → ∃ x, φ x ∧ St C (own' x) (ats' x) w)
    (hr : ∀ x, φ x → V P ops rest l C (own' x) (ats' x) K) : V P ops rest l C own ats K :=
  fun w hw => let ⟨x, h1, h2⟩ := h w hw; hr x h1 w h2
theorem V_pure {P : Program} {ops : Array Oper} {rest : List Oper} {l : LEnv} {C : Ctx} {own : List Res} {ats : List Atom} {K : LEnv → World → Prop} {φ : Prop} (h : ∀ w, St C own ats w → φ) (hr : φ → V P ops rest l C own ats K) : V P ops rest l C own ats K :=
  fun w hw => hr (h w hw) w hw
/-! append -/
section
variable {P : Program} {l : LEnv} {C : Ctx} {own : List Res} {ats : List Atom} {o : Oper} {x y : Operand}

theorem run_app {w : World} {t e k bytes n m c : Nat} {ag : Bool} {z v : Value} {cs news : List Value} {A : Option Addr} (ht : P.underlying t = some (.slice e)) (hk : Ty P e ag k) (hz : TyZ P e z) (hb : TyB P e bytes) (hzs : z.cells.size = k) (hk0 : 0 < k)
    (hown : w.ownsRow 0 e k v n cs) (hl : news.length = m * k) (hA : 0 < m → ∃ ad, A = some ad ∧ ∀ j u, news[j]? = some u → w.cell? (ad.add j) = some u) (h1 : ∀ u ∈ news, u.oneCell' = true)
    (h63 : n + m ≤ maxLen) (hby : (n + m) * bytes ≤ 140737488355328) (ty : TypeId) :
    ∃ v' w', (Builtin.append_ #[t, t] ty #[v, .slice A m c]).run P w = .ok v' w' ∧ w'.ownsRow 0 e k v' (n + m) (cs ++ news) ∧ w.grownBy w' v.ownBlock ∧ (v'.ownBlock = v.ownBlock ∨ v'.ownBlock = some w.heap.size) := by
  obtain ⟨i, hi⟩ : ∃ i, P.info? e = some i := by
    cases h : P.info? e with
    | none => have := hk.size; simp [h] at this
    | some i => exact ⟨i, rfl⟩
  have e1 : i.size = k := by have := hk.size; simpa [hi] using this
  have e2 : i.zero = some z := by unfold TyZ at hz; simpa [hi] using hz
  have e3 : i.bytes = bytes := by unfold TyB at hb; simpa [hi] using hb
  rcases Nat.eq_zero_or_pos m with h0 | h0
  · subst h0
    have : news = [] := List.eq_nil_of_length_eq_zero (by omega)
    subst this
    cases A with
    | none =>
      refine ⟨v, w, ?_, by simpa using hown, World.grownBy.refl w _, .inl rfl⟩
      rcases hown.2 with ⟨rfl, rfl⟩ | ⟨g, cap, cur, rfl, _, _, hnc, _⟩
      · simp [Builtin.append_, run_underlying ht, sizeOf, typeInfo, hi, Builtin.lenOf, Builtin.firstCells]
      · simp [Builtin.append_, run_underlying ht, sizeOf, typeInfo, hi, Builtin.lenOf, Builtin.firstCells, hnc, storeCells]
    | some ad =>
      obtain ⟨v', w', r1, r2, r3, _, r4⟩ := run_append_own_at (P := P) w 0 t ty e i z k bytes ht hi e2 e1 e3 hzs hk0 v n cs hown ad 0 c [] (by simp) (by simp) (by simp) h63 hby (Nat.zero_le _)
      exact ⟨v', w', r1, r2, r3, r4⟩
  · obtain ⟨ad, rfl, hc⟩ := hA h0
    obtain ⟨v', w', r1, r2, r3, _, r4⟩ := run_append_own_at (P := P) w 0 t ty e i z k bytes ht hi e2 e1 e3 hzs hk0 v n cs hown ad m c news hl hc h1 h63 hby (Nat.zero_le _)
    exact ⟨v', w', r1, r2, r3, r4⟩

theorem app_at {w : World} {t e k bytes n m c : Nat} {ag : Bool} {z v : Value} {cs news : List Value} {A : Option Addr} {own' : Value → List Res} (hw : St C own ats w) (ho : o.op = .call { callee := .builtin .append, args := #[x, y], argTypes := #[t, t] })
    (ht : P.underlying t = some (.slice e)) (hk : Ty P e ag k) (hz : TyZ P e z) (hb : TyB P e bytes) (hzs : z.cells.size = k) (hk0 : 0 < k) (hx : opv l x = some v) (hy : opv l y = some (.slice A m c))
    (hp : ∀ v', Put own (rOwn e k v n cs) (rOwn e k v' (n + m) (cs ++ news)) (own' v')) (hl : news.length = m * k)
    (hA : 0 < m → ∃ ad, A = some ad ∧ ∀ j u, news[j]? = some u → w.cell? (ad.add j) = some u) (h1 : ∀ u ∈ news, u.oneCell' = true) (h63 : n + m ≤ maxLen) (hby : (n + m) * bytes ≤ 140737488355328) :
    opL P o l (fun v' w' => St C (own' v') ats w') w := by
  intro ρ hρ
  have hown : w.ownsRow 0 e k v n cs := by
    obtain ⟨rest, h2, _⟩ := (hp undef).perms
    exact hw.hp.has _ (h2.mem_iff.2 (List.mem_cons_self ..))
  obtain ⟨v', w', r1, r2, r3, r4⟩ := run_app (P := P) (ty := o.type) ht hk hz hb hzs hk0 hown hl hA h1 h63 hby (c := c)
  simp only [execOp, ho, resolve, upE, invoke, builtin]
  simp only [Sem.run_bind, Sem.run_pure, Result.andThen_ok, List.map_toArray, List.map_cons, List.map_nil, hρ x _ hx, hρ y _ hy, r1]
  refine hw.put (hp v') (Kept.of_grown r3 (run_drawn _ _ _ _ r1)) r2 ?_ fun b hb => ?_
  · show (v'.ownBlock.toList).Nodup
    cases v'.ownBlock <;> simp
  have hb' : v'.ownBlock = some b := by simpa [rOwn] using hb
  rcases r4 with r4 | r4
  · exact .inl (by simp [rOwn, ← r4, hb'])
  · rw [r4] at hb'; injection hb' with hb'; exact .inr (by omega)

/-- a literal that is to grow -/
theorem l_bsO {t e len k : Nat} {ag : Bool} {parts : Array (Nat × Operand)} {pv : List (Nat × List Value)} {z : Value} (zs : List Value) {zs' : List Value} (ho : o.op = .buildSlice t len parts) (ht : P.underlying t = some (.slice e)) (hk : Ty P e ag k) (hz : TyZ P e z) (hsm : ¬ len * k > 2 ^ 24) (hzk : z.cells.size = k)
    (hzs' : zerosL z.cells.toList len = zs) (hv : pvals l parts.toList = some pv) (hf : FillL (fun i => some (i * k, k)) zs pv zs') (hl : zs'.length = len * k) (hm : len ≤ maxLen) :
    Lo P o l C own ats (fun _ : Nat => True) (fun g => .slice (some ⟨g, 0, none⟩) len len) (fun g => rOwn e k (.slice (some ⟨g, 0, none⟩) len len) len zs' :: own) (fun _ => ats) :=
  fun w hw => ((l_bs zs ho ht hk hz hsm hzk hzs' hv hf) w hw).mono fun v w' h => by
    obtain ⟨g, h1, h2, h3⟩ := h
    exact ⟨g, h1, h2, h3.row Put.head hl hm⟩

/-- append out of a block of one's own (a literal) -/
theorem l_appB {t e T k bytes n m c g : Nat} {ag : Bool} {z v : Value} {cs news : List Value} {own' : Value → List Res} {rest : List Res} (ho : o.op = .call { callee := .builtin .append, args := #[x, y], argTypes := #[t, t] })
    (ht : P.underlying t = some (.slice e)) (hk : Ty P e ag k) (hz : TyZ P e z) (hb : TyB P e bytes) (hzs : z.cells.size = k) (hk0 : 0 < k) (hx : opv l x = some v) (hy : opv l y = some (.slice (some ⟨g, 0, none⟩) m c))
    (hs : Sel own (rBlk g T news) rest) (hp : ∀ v', Put own (rOwn e k v n cs) (rOwn e k v' (n + m) (cs ++ news)) (own' v')) (hl : news.length = m * k) (h1 : news.all (·.oneCell') = true) (h63 : n + m ≤ maxLen) (hby : (n + m) * bytes ≤ 140737488355328) :
    Lo P o l C own ats (fun _ : Value => True) (fun v' => v') own' (fun _ => ats) :=
  fun _ hw => (app_at hw ho ht hk hz hb hzs hk0 hx hy hp hl (fun _ => ⟨_, rfl, fun j u hu => by rw [addr_add, Nat.zero_add]; exact cell_blk (hw.res hs) hu⟩) (fun u hu => List.all_eq_true.1 h1 u hu) h63 hby).mono
    fun v' _ h => ⟨v', trivial, rfl, h⟩

/-- append(s, xs...), xs a slice that stays: what comes are the cells of xs -/
theorem l_appS {α : Type} (R : Rep α) {xs : List α} {t e bytes k n m c : Nat} {ag : Bool} {z v : Value} {cs : List Value} {A : Option Addr} {own' : List Value → Value → List Res} (ho : o.op = .call { callee := .builtin .append, args := #[x, y], argTypes := #[t, t] })
    (ht : P.underlying t = some (.slice e)) (hk : Ty P e ag k) (hz : TyZ P e z) (hb : TyB P e bytes) (hR : R.k = k) (hzs : z.cells.size = k) (hk0 : 0 < k) (hx : opv l x = some v) (hy : opv l y = some (.slice A m c))
    (hs : In (aSl R xs A m c) ats) (hp : ∀ news v', Put own (rOwn e k v n cs) (rOwn e k v' (n + m) (cs ++ news)) (own' news v')) (h63 : n + m ≤ maxLen) (hby : (n + m) * bytes ≤ 140737488355328) :
    Lo P o l C own ats (fun _ : List Value × Value => True) (fun p => p.2) (fun p => own' p.1 p.2) (fun p => aEv R xs p.1 :: ats) := by
  subst hR
  intro w hw
  obtain ⟨news, e1, e2, e3⟩ := (show SlP R _ w xs A m c from hw.atom hs).ev
  have hm : m = xs.length := (show SlP R _ w xs A m c from hw.atom hs).1
  have hw' := hw.know (aEv R xs news) e1
  refine (app_at hw' ho ht hk hz hb hzs hk0 hx hy (hp news) (by rw [e1.1, hm]) (fun h0 => e3 (fun h => by subst h; simp at hm; omega)) e2 h63 hby).mono ?_
  intro v' w' h
  exact ⟨(news, v'), trivial, rfl, h⟩
end
end Go.Proofs.YtgbhegmhbeekpaaGreat
