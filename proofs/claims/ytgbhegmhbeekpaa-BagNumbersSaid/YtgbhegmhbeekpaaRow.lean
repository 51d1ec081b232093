/-
  From contracts to what the rows ask.
-/
import Derived.Test.YtgbhegmhbeekpaaFrMap
import Derived.Below

namespace Go.Proofs.Ytgbhegmhbeekpaa
open Go

theorem cell_lt {w : World} {a : Addr} {v : Value} (h : w.cell? a = some v) : a.block < w.heap.size := by
  rcases Nat.lt_or_ge a.block w.heap.size with h1 | h1
  · exact h1
  · have h2 : w.heap[a.block]? = none := Array.getElem?_eq_none h1
    simp [World.cell?, h2] at h

theorem below_of_con {P : Program} {f : FuncId} {args : Array Value} {pre : List Atom} {v : Value} (hc : Con P f args [] pre (fun _ : Unit => True) (fun _ => v) (fun _ => []) (fun _ => [])) (w : World) (hp : ∀ A ∈ pre, A.p [] w) :
    Calls P f args w fun e w' => e = .returned v ∧ RowKit.Below w.heap.size w w' := by
  refine (hc [] w ⟨by simp, by simp [bks], by simp, by simp, fun A hA => by simpa [bks] using hp A hA⟩).mono ?_
  rintro e w' ⟨_, _, rfl, h, _⟩
  have h' : Kept [] w w' := h
  exact ⟨rfl, h'.os, h'.tape, h'.output, h'.size, fun b hb => h'.blk b hb (by simp)⟩

/-- a slice of whole numbers that came in -/
theorem slp_ints {k : IntKind} {w : World} {a : Option Addr} {len cap : Nat} {zs : List Int}
    (h : (a = none ∧ len = 0 ∧ cap = 0 ∧ zs = []) ∨ ∃ x, a = some x ∧ len ≤ cap ∧ cap ≤ maxLen ∧ zs.length = cap ∧ (∀ i, i < zs.length → w.cell? (x.add i) = some (.int k (zs.getD i 0))) ∧ ∀ n ∈ zs, (Lit.int k n).wf = true) :
    SlP (rInt k) [] w (zs.take len) a len cap := by
  rcases h with ⟨rfl, rfl, rfl, rfl⟩ | ⟨x, rfl, h1, h2, h3, h4, _⟩
  · exact SlP.nil _ _ _
  · refine ⟨by simp; omega, h1, h2, (fun h => by cases h), fun ad ha h0 => ?_⟩
    injection ha with ha
    subst ha
    refine ⟨by simp, ?_, fun i hi => ⟨[.int k (zs.take len)[i]], rfl, fun j v hv => ?_⟩⟩
    · have h5 := cell_lt (h4 0 (by omega))
      rwa [add_block] at h5
    · simp only [List.length_take] at hi
      cases j with
      | zero =>
        have hv' : v = .int k (zs.take len)[i] := by simpa using hv.symm
        subst hv'
        have := h4 i (by omega)
        rw [show i * (rInt k).k + 0 = i from by show i * 1 + 0 = i; omega]
        rw [this, List.getElem_take]
        simp [List.getD_eq_getElem?_getD, List.getElem?_eq_getElem (show i < zs.length by omega)]
      | succ j => simp at hv
end Go.Proofs.Ytgbhegmhbeekpaa
