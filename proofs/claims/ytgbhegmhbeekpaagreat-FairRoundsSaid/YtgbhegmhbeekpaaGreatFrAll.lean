/-
  Many resources as one.
-/
import Derived.Test.YtgbhegmhbeekpaaGreatFrLend

namespace Go.Proofs.YtgbhegmhbeekpaaGreat
open Go

theorem bks_mem {l : List Res} {b : Nat} : b ∈ bks l ↔ ∃ r ∈ l, b ∈ r.blks := mem_bks

/-- All of l at once. -/
def rAll (l : List Res) : Res where
  blks := bks l
  p w := (bks l).Nodup ∧ ∀ r ∈ l, r.p w
  keep := by
    rintro w w' ⟨h1, h2⟩ hs hb
    exact ⟨h1, fun r hr => r.keep (h2 r hr) hs fun b hb' => hb b (mem_bks.2 ⟨r, hr, hb'⟩)⟩
  lt := by
    rintro w ⟨_, h2⟩ b hb
    obtain ⟨r, hr, hbr⟩ := mem_bks.1 hb
    exact r.lt (h2 r hr) b hbr

section
variable {C : Ctx} {own own' rest : List Res} {ats : List Atom} {w : World}

theorem St.blocks (h : St C own ats w) (hb : (bks own').Perm (bks own)) (hp : (∀ r ∈ own, r.p w) → ∀ r ∈ own', r.p w) : St C own' ats w :=
  ⟨⟨h.hp.lt, hb.nodup_iff.2 h.hp.nd, fun b hb' hc => h.hp.dj b hb' (hb.mem_iff.1 hc), hp h.hp.has, fun A hA => A.sub (h.hp.ats A hA) fun b hb' => by
    simp only [List.mem_append] at hb' ⊢
    exact hb'.imp id hb.mem_iff.1⟩, h.kept, fun b hb' => h.mine b (hb.mem_iff.1 hb')⟩

theorem bks_all (l : List Res) (own : List Res) : bks (rAll l :: own) = bks (l ++ own) := by rw [bks_cons, bks_append]; rfl

/-- opened -/
theorem St.unall {l : List Res} (h : St C (rAll l :: own) ats w) : St C (l ++ own) ats w := by
  refine h.blocks (by rw [bks_all]) fun hp r hr => ?_
  rcases List.mem_append.1 hr with hr | hr
  · exact (hp _ (List.mem_cons_self ..)).2 r hr
  · exact hp r (List.mem_cons_of_mem _ hr)
/-- shut -/
theorem St.all {l : List Res} (h : St C (l ++ own) ats w) : St C (rAll l :: own) ats w := by
  have hnd := h.hp.nd
  rw [bks_append, List.nodup_append] at hnd
  refine h.blocks (by rw [bks_all]) fun hp r hr => ?_
  rcases List.mem_cons.1 hr with rfl | hr
  · exact ⟨hnd.1, fun r hr => hp r (List.mem_append_left _ hr)⟩
  · exact hp r (List.mem_append_right _ hr)

/-- one of them is taken out -/
theorem St.out {l1 l2 : List Res} {r : Res} (h : St C own ats w) (hs : Sel own (rAll (l1 ++ r :: l2)) rest) : St C (r :: rAll (l1 ++ l2) :: rest) ats w := by
  have h1 := (h.perm hs.perm).unall
  have h2 : St C (r :: (l1 ++ l2) ++ rest) ats w := h1.perm (by
    refine List.Perm.append_right rest ?_
    exact List.perm_middle)
  have h3 : St C ((l1 ++ l2) ++ (r :: rest)) ats w := h2.perm (by
    rw [List.cons_append]
    exact (List.perm_middle (a := r) (l₁ := l1 ++ l2) (l₂ := rest)).symm)
  exact h3.all.perm (List.Perm.swap _ _ _)
/-- it is put back, as another one -/
theorem St.back {l1 l2 : List Res} {r : Res} (h : St C own ats w) (hp : Pick own [r, rAll (l1 ++ l2)] rest) : St C (rAll (l1 ++ r :: l2) :: rest) ats w := by
  have h1 : St C (rAll (l1 ++ l2) :: r :: rest) ats w := (h.perm hp.perm).perm (List.Perm.swap _ _ _)
  have h2 : St C ((l1 ++ l2) ++ r :: rest) ats w := h1.unall
  have h3 : St C ((l1 ++ r :: l2) ++ rest) ats w := h2.perm (by
    rw [List.append_assoc, List.append_assoc]
    refine List.Perm.append_left l1 ?_
    rw [List.cons_append]
    exact List.perm_middle)
  exact h3.all
theorem St.allNone (h : St C own ats w) : St C (rAll [] :: own) ats w := St.all (l := []) h
theorem St.push {l : List Res} {r : Res} (h : St C own ats w) (hp : Pick own [r, rAll l] rest) : St C (rAll (l ++ [r]) :: rest) ats w := by
  have := St.back (l1 := l) (l2 := []) (r := r) h (by simpa using hp)
  exact this
end
end Go.Proofs.YtgbhegmhbeekpaaGreat
