/-
  From contracts to what the rows ask.
-/
import Derived.Test.YtgbhegmhbeekpaaGreatFrMap
import Derived.Below
import Derived.Deep.Slices

namespace Go.Proofs.YtgbhegmhbeekpaaGreat
open Go

theorem cell_lt {w : World} {a : Addr} {v : Value} (h : w.cell? a = some v) : a.block < w.heap.size := by
  rcases Nat.lt_or_ge a.block w.heap.size with h1 | h1
  · exact h1
  · have h2 : w.heap[a.block]? = none := Array.getElem?_eq_none h1
    simp [World.cell?, h2] at h

theorem below_of_con {P : Program} {f : FuncId} {args : Array Value} {pre : List Atom} {v : Value} (hc : Con P f args [] pre (fun _ : Unit => True) (fun _ => v) (fun _ => []) (fun _ => [])) (w : World) (hp : ∀ A ∈ pre, A.p [] w) :
    Calls P f args w fun e w' => e = .returned v ∧ RowKit.Below w.heap.size w w' := by
  refine (hc [] w ⟨by simp, by simp [bks], by simp, by simp, fun A hA => by simpa [bks] using hp A hA⟩).mono ?_
  rintro e w' ⟨_, _, rfl, h, _⟩
  have h' : Kept [] w w' := h
  exact ⟨rfl, h'.os, h'.tape, h'.output, h'.size, fun b hb => h'.blk b hb (by simp)⟩

/-- a slice of whole numbers that came in -/
theorem slp_ints {k : IntKind} {w : World} {a : Option Addr} {len cap : Nat} {zs : List Int}
    (h : (a = none ∧ len = 0 ∧ cap = 0 ∧ zs = []) ∨ ∃ x, a = some x ∧ len ≤ cap ∧ cap ≤ maxLen ∧ zs.length = cap ∧ (∀ i, i < zs.length → w.cell? (x.add i) = some (.int k (zs.getD i 0))) ∧ ∀ n ∈ zs, (Lit.int k n).wf = true) :
    SlP (rInt k) [] w (zs.take len) a len cap := by
  rcases h with ⟨rfl, rfl, rfl, rfl⟩ | ⟨x, rfl, h1, h2, h3, h4, _⟩
  · exact SlP.nil _ _ _
  · refine ⟨by simp; omega, h1, h2, (fun h => by cases h), fun ad ha h0 => ?_⟩
    injection ha with ha
    subst ha
    refine ⟨by simp, ?_, fun i hi => ⟨[.int k (zs.take len)[i]], rfl, fun j v hv => ?_⟩⟩
    · have h5 := cell_lt (h4 0 (by omega))
      rwa [add_block] at h5
    · simp only [List.length_take] at hi
      cases j with
      | zero =>
        have hv' : v = .int k (zs.take len)[i] := by simpa using hv.symm
        subst hv'
        have := h4 i (by omega)
        rw [show i * (rInt k).k + 0 = i from by show i * 1 + 0 = i; omega]
        rw [this, List.getElem_take]
        simp [List.getD_eq_getElem?_getD, List.getElem?_eq_getElem (show i < zs.length by omega)]
      | succ j => simp at hv

/-- a slice of elements that came in -/
theorem slp_open {α : Type} (R : Rep α) {H : Type} {enc : TypeId × Value → H} {P : Program} {w : World} {base : Nat} {spare : Nat → Bool} {held : Bool} {fuel : Nat} {t e : TypeId} {a : Option Addr} {n c : Nat} {x : DataW H × List MemPlace} (ht : P.underlying t = some (.slice e)) (hk : P.cellsOf e = R.k) (hk0 : 0 < R.k)
    (hR : ∀ m cs y, DataW.trod enc P w base spare held m e cs = some y → ∃ x, R.p [] w x cs) (h : DataW.trod enc P w base spare held fuel t [.slice a n c] = some x) : ∃ xs, SlP R [] w xs a n c := by
  rcases Deep.open_slice ht h with ⟨h1, _⟩ | ⟨b, len, cap, m, k, D, Pl, h1, _, hl, hm, hmm, _, hx⟩
  · simp only [List.cons.injEq, Value.slice.injEq, and_true] at h1
    obtain ⟨rfl, rfl, rfl⟩ := h1
    exact ⟨[], SlP.nil R [] w⟩
  · simp only [List.cons.injEq, Value.slice.injEq, and_true] at h1
    obtain ⟨rfl, rfl, rfl⟩ := h1
    have hlm : n ≤ m := by rw [hmm]; split <;> omega
    have each : ∀ i, i < n → ∃ x cs, R.p [] w x cs ∧ ∀ j v, cs[j]? = some v → w.cell? (b.add (i * R.k + j)) = some v := by
      intro i hi
      obtain ⟨cs, h2, h3⟩ := hx i (by omega)
      obtain ⟨y, hy⟩ := hR _ _ _ h3
      rw [hk] at h2
      obtain ⟨_, h4, h5⟩ := World.cells?_some h2
      refine ⟨y, cs, hy, fun j v hv => ?_⟩
      have hj : j < R.k := by rw [← h4]; exact (List.getElem?_eq_some_iff.1 hv).1
      have := h5 j hj
      rw [add_add'] at this
      rw [this, hv]
    have build : ∀ m, m ≤ n → ∃ xs : List α, xs.length = m ∧ ∀ i (hi : i < xs.length), ∃ cs, R.p [] w xs[i] cs ∧ ∀ j v, cs[j]? = some v → w.cell? (b.add (i * R.k + j)) = some v := by
      intro m
      induction m with
      | zero => intro _; exact ⟨[], rfl, fun i hi => by simp at hi⟩
      | succ m ih =>
        intro hm'
        obtain ⟨xs, h2, h3⟩ := ih (by omega)
        obtain ⟨y, cs, h4, h5⟩ := each m (by omega)
        refine ⟨xs ++ [y], by simp [h2], fun i hi => ?_⟩
        by_cases hlt : i < xs.length
        · rw [List.getElem_append_left hlt]; exact h3 i hlt
        · have : i = m := by simp at hi; omega
          subst this
          have e1 : (xs ++ [y])[i] = y := by simp [h2.symm]
          rw [e1]; exact ⟨cs, h4, h5⟩
    obtain ⟨xs, h2, h3⟩ := build n (Nat.le_refl _)
    refine ⟨xs, h2.symm, hl, hm, (fun h => by cases h), fun ad ha h0 => ?_⟩
    injection ha with ha
    subst ha
    refine ⟨by simp, ?_, h3⟩
    obtain ⟨cs, h4, h5⟩ := h3 0 (by omega)
    have hlen := R.len h4
    have h6 := h5 0 (cs[0]'(by omega)) (List.getElem?_eq_getElem (by omega))
    have h7 := cell_lt h6
    rwa [add_block] at h7
end Go.Proofs.YtgbhegmhbeekpaaGreat
