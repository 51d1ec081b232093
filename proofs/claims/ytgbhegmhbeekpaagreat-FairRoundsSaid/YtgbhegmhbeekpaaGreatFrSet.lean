/-
  An element of a row of the call's own is written.
-/
import Derived.Test.YtgbhegmhbeekpaaGreatFrLend

namespace Go.Proofs.YtgbhegmhbeekpaaGreat
open Go

theorem putL_set : ∀ (l : List Value) (i : Nat) (u : Value), i < l.length → PutL l i [u] (l.set i u)
  | [], i, u, h => by simp at h
  | x :: l, 0, u, _ => .s .z
  | x :: l, i + 1, u, h => .t (putL_set l i u (by simpa using h))

section
variable {P : Program} {nn : Nat} {l : LEnv} {C : Ctx} {own own' rest : List Res} {ats : List Atom} {Q : Exit → LEnv → World → Prop} {cd : Code} {o : Oper} {x y : Operand}

/-- a row that is not empty has a block -/
theorem T_own {e k n : Nat} {v : Value} {cs : List Value} (hs : Sel own (rOwn e k v n cs) rest) (hn : 0 < n)
    (h : ∀ g c, v = .slice (some ⟨g, 0, none⟩) n c → T P nn cd l C own ats Q) : T P nn cd l C own ats Q := by
  intro w hw
  have h1 : w.ownsRow 0 e k v n cs := hw.res hs
  rcases h1.2 with ⟨rfl, rfl⟩ | ⟨g, cap, cur, rfl, _⟩
  · omega
  · exact h g cap rfl w hw

theorem V_slice {ops : Array Oper} {r : List Oper} {K : LEnv → World → Prop} {e k n : Nat} {v : Value} {cs : List Value} (hs : Sel own (rOwn e k v n cs) rest)
    (h : ∀ a c, v = .slice a n c → V P ops r l C own ats K) : V P ops r l C own ats K := by
  intro w hw
  have h1 : w.ownsRow 0 e k v n cs := hw.res hs
  rcases h1.2 with ⟨rfl, rfl⟩ | ⟨g, cap, cur, rfl, _⟩
  · exact h none 0 rfl w hw
  · exact h _ cap rfl w hw
theorem V_seal {α : Type} {ops : Array Oper} {r : List Oper} {K : LEnv → World → Prop} (R : Rep α) {xs : List α} {e k n : Nat} {v : Value} {cs : List Value} (hR : R.k = k) (hk : 0 < k) (hs : Sel own (rOwn e k v n cs) rest) (he : In (aEv R xs cs) ats)
    (h : ∀ (a : Option Addr) (c : Nat), v = .slice a n c → V P ops r l C rest (aSl R xs a n c :: ats) K) : V P ops r l C own ats K := by
  intro w hw
  obtain ⟨a, c, hv, h1⟩ := hw.leave R hR hk hs he
  exact h a c hv w h1

theorem l_setO {t e g off n c : Nat} {u : Value} {cs : List Value} (i : Nat) (ho : o.op = .store t x y) (ht : Ty P t false 1) (hx : opv l x = some (.pointer (some ⟨g, off, none⟩))) (hy : opv l y = some u) (hu : u.cells.toList = [u]) (h1 : u.oneCell' = true) (hoff : off = i) (hi : i < n)
    (hp : Put own (rOwn e 1 (.slice (some ⟨g, 0, none⟩) n c) n cs) (rOwn e 1 (.slice (some ⟨g, 0, none⟩) n c) n (cs.set i u)) own') : Lo P o l C own ats (fun _ : Unit => True) (fun _ => undef) (fun _ => own') (fun _ => ats) := by
  subst hoff
  intro w hw ρ hρ
  have hown : w.ownsRow 0 e 1 (.slice (some ⟨g, 0, none⟩) n c) n cs := by
    obtain ⟨rest, h2, _⟩ := hp.perms
    exact hw.hp.has _ (h2.mem_iff.2 (List.mem_cons_self ..))
  obtain ⟨hl, hor⟩ := hown
  rcases hor with ⟨hv, _⟩ | ⟨g', cap, cur, hv, h2, h3, h4, h5, h6, h7⟩
  · cases hv
  injection hv with hv1 hv2 hv3
  injection hv1 with hv1
  injection hv1 with hg
  subst hg; subst hv3
  have hlt : off < cur.toList.length := by simp; omega
  obtain ⟨w', r1, r2, r3, _⟩ := (putL_set cur.toList off u hlt).run (P := P) g e w [] 0 (by simpa using h3) rfl (fun v hv => by have := List.mem_singleton.1 hv; subst this; exact h1) ⟨g, off, none⟩ 0 (by simp [Addr.add]) rfl
  have hsz : u.cells.size = 1 := by
    have := congrArg List.length hu
    simpa using this
  have hrun : (storeVar t ⟨g, off, none⟩ u).run P w = .ok () w' := by
    unfold storeVar
    simp only [Sem.run_bind, ht.run_size]
    simp [hsz, hu, r1]
  simp only [execOp, ho, hρ x _ hx, hρ y _ hy, Instr.storeAt, Instr.sureAddr, upE]
  simp only [Sem.run_bind, Sem.run_pure, Result.andThen_ok, hrun]
  refine ⟨(), trivial, ?_, hw.put hp (by simpa [rOwn, Value.ownBlock] using r3) ⟨by simpa using hl, .inr ⟨g, c, (cur.toList.set off u).toArray, rfl, h2, by simpa using r2, h4, h5, by simpa using h6, ?_⟩⟩ (by simp [rOwn, Value.ownBlock]) (fun b hb => .inl hb)⟩
  · first | rfl | trivial
  · rw [List.toList_toArray, List.take_set, h7]
end
end Go.Proofs.YtgbhegmhbeekpaaGreat
