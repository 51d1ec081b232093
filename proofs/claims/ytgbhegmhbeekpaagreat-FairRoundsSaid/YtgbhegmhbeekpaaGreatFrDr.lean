/-
  A computation takes no answer of the tape back.
-/
import Derived.Test.YtgbhegmhbeekpaaGreatFrAny
import Derived.Laws.AppendOwn
namespace Go.Proofs.YtgbhegmhbeekpaaGreat
open Go
theorem viewStore_drawn {p : Program} {w : World} {at_ : Addr} {u : TypeId} {k : Addr} {v : Value} {atomic : Bool} {r : World × List Addr} (h : w.viewStore p at_ u k v atomic = .ok r) : r.1.drawn = w.drawn := by
  unfold World.viewStore at h
  simp only [bind, Except.bind, pure, Except.pure] at h
  repeat' split at h
  all_goals first
    | (cases h; done)
    | (injection h with h; subst h; rfl)
    | skip
theorem farStore_drawn {p : Program} {w : World} {a : Addr} {v : Value} {b : Bool} {r : World × List Addr} (h : w.farStore p a v b = .ok r) : r.1.drawn = w.drawn := by
  unfold World.farStore at h
  split at h
  · split at h
    · rename_i h'
      injection h with h
      subst h
      exact viewStore_drawn h'
    · cases h
  · cases h
theorem ask_drawn {α : Type} : ∀ (k : Ask α) (w : World), w.drawn ≤ (w.ask k).2.drawn
  | .done a, w => Nat.le_refl _
  | .ask what range k, w => by
    unfold World.ask
    simp only
    split
    · exact ask_drawn _ w
    · exact Nat.le_trans (Nat.le_succ _) (ask_drawn _ { w with drawn := w.drawn + 1 })
theorem sys_drawn (w : World) (c : Sys) : w.drawn ≤ (w.sys c).2.drawn := by
  unfold World.sys
  have := ask_drawn (Kernel.perform c w.os) w
  split
  · exact Nat.le_refl _
  · rename_i h
    rw [h] at this
    exact this
theorem freeze_drawn (w : World) (a : Addr) (n : Nat) : (w.freeze a n).drawn = w.drawn := by unfold World.freeze; split <;> rfl
theorem run_drawn {α : Type} {P : Program} : ∀ (m : Sem α) (w w' : World) (v : α), m.run P w = .ok v w' → w.drawn ≤ w'.drawn := by
  intro m
  induction m with
  | pure a => intro w w' v h; simp only [Sem.run] at h; injection h with _ h; subst h; exact Nat.le_refl _
  | load m a k ih =>
    intro w w' v h
    simp only [Sem.run] at h
    split at h
    · exact ih _ _ _ _ h
    · split at h
      · exact ih _ _ _ _ h
      · cases h
  | store m a u k ih =>
    intro w w' v h
    cases u
    all_goals simp only [Sem.run] at h
    all_goals first
      | (cases h; done)
      | (split at h
         · split at h
           · cases h
           · have h2 := ih _ _ _ h
             exact h2
         · split at h
           · rename_i hf
             have h1 := farStore_drawn hf
             have h2 := ih _ _ _ h
             simp only at h1
             omega
           · cases h)
  | new o k ih => intro w w' v h; simp only [Sem.run] at h; exact ih _ { w with heap := w.heap.push o } _ _ h
  | shape r k ih => intro w w' v h; simp only [Sem.run] at h; exact ih _ _ _ _ h
  | freeze a n k ih => intro w w' v h; simp only [Sem.run] at h; have := ih _ _ _ h; rwa [freeze_drawn] at this
  | frozen a k ih => intro w w' v h; simp only [Sem.run] at h; exact ih _ _ _ _ h
  | getObj r k ih =>
    intro w w' v h
    simp only [Sem.run] at h
    split at h
    · cases h
    · exact ih _ _ _ _ h
    · cases h
  | setObj r o k ih =>
    intro w w' v h
    simp only [Sem.run] at h
    split at h
    · cases h
    · exact ih { w with heap := w.heap.setIfInBounds r o } _ _ h
    · cases h
  | choose q k ih =>
    intro w w' v h
    simp only [Sem.run] at h
    split at h
    · exact ih _ _ _ _ h
    · exact Nat.le_trans (Nat.le_succ _) (ih _ _ _ _ h)
  | sys c k ih => intro w w' v h; simp only [Sem.run] at h; exact Nat.le_trans (sys_drawn w c) (ih _ _ _ _ h)
  | program k ih => intro w w' v h; simp only [Sem.run] at h; exact ih _ _ _ _ h
  | mark m k ih => intro w w' v h; simp only [Sem.run] at h; exact ih _ _ _ h
  | halt x => intro w w' v h; simp only [Sem.run] at h; cases h
end Go.Proofs.YtgbhegmhbeekpaaGreat
