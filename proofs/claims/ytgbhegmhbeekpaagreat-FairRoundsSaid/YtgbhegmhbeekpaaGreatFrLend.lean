/-
  A row of the call's own is lent: for a while it is a slice that stays.
-/
import Derived.Test.YtgbhegmhbeekpaaGreatFrRow

namespace Go.Proofs.YtgbhegmhbeekpaaGreat
open Go

section
variable {P : Program} {nn : Nat} {l : LEnv} {C : Ctx} {own rest : List Res} {ats : List Atom} {Q : Exit → LEnv → World → Prop} {cd : Code}

theorem St.lend {r : Res} {w : World} (hw : St C own ats w) (hs : Sel own r rest) (rest' : List Res) (ats' : List Atom) (w' : World) (h : St ⟨C.M, bks rest, w⟩ rest' ats' w') : St C (r :: rest') ats w' ∧ St C rest' ats' w' := by
  have h0 := hw.perm hs.perm
  have hk : Kept (bks rest) w w' := h.kept
  have hnd := h0.hp.nd
  rw [bks_cons, List.nodup_append] at hnd
  obtain ⟨n1, n2, n3⟩ := hnd
  have hlt := h0.hp.blt
  have hmine : ∀ b ∈ bks rest', b ∈ bks rest ∨ w.heap.size ≤ b := h.mine
  have hblt : ∀ b ∈ r.blks, b < w.heap.size := fun b hb => hlt b (by rw [bks_cons]; exact List.mem_append_left _ hb)
  have hkept : Kept C.M1 C.w0 w' := by
    refine ⟨Nat.le_trans hw.kept.size hk.size, fun b hb hn => ?_, hk.os.trans hw.kept.os, hk.tape.trans hw.kept.tape, hk.output.trans hw.kept.output, Nat.le_trans hw.kept.drawn hk.drawn⟩
    refine (hk.blk b (Nat.lt_of_lt_of_le hb hw.kept.size) fun hc => ?_).trans (hw.kept.blk b hb hn)
    rcases h0.mine b (by rw [bks_cons]; exact List.mem_append_right _ hc) with h1 | h1
    · exact hn h1
    · omega
  have hmine' : ∀ b ∈ bks rest', b ∈ C.M1 ∨ C.w0.heap.size ≤ b := fun b hb => by
    rcases hmine b hb with h1 | h1
    · exact h0.mine b (by rw [bks_cons]; exact List.mem_append_right _ h1)
    · exact .inr (Nat.le_trans hw.kept.size h1)
  refine ⟨⟨⟨h.hp.lt, ?_, ?_, ?_, ?_⟩, hkept, ?_⟩, ⟨h.hp, hkept, hmine'⟩⟩
  · rw [bks_cons, List.nodup_append]
    refine ⟨n1, h.hp.nd, fun a ha b hb e => ?_⟩
    subst e
    rcases hmine a hb with h1 | h1
    · exact n3 a ha a h1 rfl
    · have := hblt a ha; omega
  · intro b hb hc
    rw [bks_cons, List.mem_append] at hc
    rcases hc with hc | hc
    · exact h0.hp.dj b hb (by rw [bks_cons]; exact List.mem_append_left _ hc)
    · exact h.hp.dj b hb hc
  · intro x hx
    rcases List.mem_cons.1 hx with rfl | hx
    · exact x.keep (h0.hp.has x (List.mem_cons_self ..)) hk.size fun b hb => hk.blk b (hblt b hb) fun hc => n3 b hb b hc rfl
    · exact h.hp.has x hx
  · intro A hA
    refine A.mov (h0.hp.ats A hA) (hk.mono fun b hb => by rw [bks_cons]; simp [hb]) fun b hb => ?_
    rw [bks_cons] at hb ⊢
    simp only [List.mem_append] at hb ⊢
    rcases hb with hb | hb | hb
    · exact .inl (.inl hb)
    · exact .inl (.inr (.inl hb))
    · rcases hmine b hb with h1 | h1
      · exact .inl (.inr (.inr h1))
      · exact .inr h1
  · intro b hb
    rw [bks_cons, List.mem_append] at hb
    rcases hb with hb | hb
    · exact h0.mine b (by rw [bks_cons]; exact List.mem_append_left _ hb)
    · exact hmine' b hb

theorem T_lend {α : Type} (R : Rep α) {xs : List α} {e k n : Nat} {v : Value} {cs : List Value} (hR : R.k = k) (hk : 0 < k) (hs : Sel own (rOwn e k v n cs) rest) (he : In (aEv R xs cs) ats)
    (h : ∀ (C' : Ctx) (a : Option Addr) (c : Nat), v = .slice a n c → (∀ rest' ats' w', St C' rest' ats' w' → St C (rOwn e k v n cs :: rest') ats w') → (∀ rest' ats' w', St C' rest' ats' w' → St C rest' ats' w') →
      T P nn cd l C' rest (aSl R xs a n c :: ats) Q) : T P nn cd l C own ats Q := by
  intro w hw
  obtain ⟨a, c, hv, h1⟩ := hw.leave R hR hk hs he
  refine h ⟨C.M, bks rest, w⟩ a c hv (fun rest' ats' w' h2 => (hw.lend hs rest' ats' w' h2).1) (fun rest' ats' w' h2 => (hw.lend hs rest' ats' w' h2).2) w ?_
  exact ⟨h1.hp, Kept.refl _ _, fun b hb => .inl hb⟩

/-- these resources, in whatever order they lie -/
theorem St.pick {own' : List Res} {ats' : List Atom} {w : World} (h : St C own ats w) (hp : Pick own own' rest) (ha : ∀ A ∈ ats', A ∈ ats) : St C own' ats' w :=
  (h.perm hp.perm).weak (List.sublist_append_left ..) ha

/-- the row is left to itself -/
theorem T_seal {α : Type} (R : Rep α) {xs : List α} {e k n : Nat} {v : Value} {cs : List Value} (hR : R.k = k) (hk : 0 < k) (hs : Sel own (rOwn e k v n cs) rest) (he : In (aEv R xs cs) ats)
    (h : ∀ (a : Option Addr) (c : Nat), v = .slice a n c → T P nn cd l C rest (aSl R xs a n c :: ats) Q) : T P nn cd l C own ats Q := by
  intro w hw
  obtain ⟨a, c, hv, h1⟩ := hw.leave R hR hk hs he
  exact h a c hv w h1
/-- a row is a slice -/
theorem T_slice {e k n : Nat} {v : Value} {cs : List Value} (hs : Sel own (rOwn e k v n cs) rest)
    (h : ∀ (a : Option Addr) (c : Nat), v = .slice a n c → T P nn cd l C own ats Q) : T P nn cd l C own ats Q := by
  intro w hw
  have h1 : w.ownsRow 0 e k v n cs := hw.res hs
  rcases h1.2 with ⟨rfl, rfl⟩ | ⟨g, cap, cur, rfl, _⟩
  · exact h none 0 rfl w hw
  · exact h _ cap rfl w hw

theorem T_back {C' : Ctx} {own' : List Res} {ats' : List Atom} (hr : ∀ w, St C' own ats w → St C own' ats' w) (h : T P nn cd l C own' ats' Q) : T P nn cd l C' own ats Q := fun w hw => h w (hr w hw)
theorem V_back {ops : Array Oper} {r : List Oper} {K : LEnv → World → Prop} {C' : Ctx} {own' : List Res} {ats' : List Atom} (hr : ∀ w, St C' own ats w → St C own' ats' w) (h : V P ops r l C own' ats' K) : V P ops r l C' own ats K := fun w hw => h w (hr w hw)
end
end Go.Proofs.YtgbhegmhbeekpaaGreat
