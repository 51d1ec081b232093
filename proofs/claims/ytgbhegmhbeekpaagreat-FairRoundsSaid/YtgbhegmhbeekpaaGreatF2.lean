/-
  Literals of rows; what the statements of chapter 26 say of runs that are known.
-/
import Derived.Test.YtgbhegmhbeekpaaGreatF1
namespace Go.Proofs.YtgbhegmhbeekpaaGreat
open Go
set_option maxRecDepth 100000

section
variable {C : Ctx} {own rest : List Res} {ats : List Atom} {w : World}
/-- a literal row -/
theorem St.lit {α : Type} (R : Rep α) (xs : List α) {g e n k : Nat} {cs : List Value} (h : St C own ats w) (hs : Sel own (rBlk g e cs) rest) (hR : R.k = k) (hk : 0 < k) (hl : cs.length = n * k) (hm : n ≤ maxLen) (he : EvP R (C.M ++ bks own) w xs cs) :
    St C rest (aSl R xs (some ⟨g, 0, none⟩) n n :: ats) w :=
  ((h.know (aEv R xs cs) he).sealBE R hR hs hk hl hm .head).weak (List.Sublist.refl _) (by simp +contextual)
end
/-- an instruction without a list -/
theorem inst_p (M : List Nat) (w : World) (k o n d t : Int) : rInst.p M w ⟨k, o, [], nd0, n, d, t⟩ [.int .i64 k, .int .i64 o, .slice none 0 0, .int .i64 0, .slice none 0 0, .slice none 0 0, .slice none 0 0, .int .i64 0, .int .i64 0, .string ByteArray.empty, .int .i64 n, .int .i64 d, .int .i64 t] :=
  ⟨none, 0, 0, [.int .i64 0, .slice none 0 0, .slice none 0 0, .slice none 0 0, .int .i64 0, .int .i64 0, .string ByteArray.empty], rfl, SlP.nil I M w, none, 0, 0, none, 0, 0, none, 0, 0, rfl, SlP.nil I M w, SlP.nil I M w, SlP.nil I M w⟩
abbrev inst0 (k o n d t : Int) : Inst := ⟨k, o, [], nd0, n, d, t⟩
abbrev ic (k : Int) : List Value := [.int .i64 k, .int .i64 0, .slice none 0 0, .int .i64 0, .slice none 0 0, .slice none 0 0, .slice none 0 0, .int .i64 0, .int .i64 0, .string ByteArray.empty, .int .i64 0, .int .i64 0, .int .i64 0]

def stuckL : List (List Inst) := [[inst0 4 0 0 0 0]]
theorem stuck_ok : ∀ p ∈ stuckL, p.length ≤ 65536 ∧ PrOk 1 p ∧ ∀ i ∈ p, Sm i := by
  intro p hp
  rw [List.mem_singleton.1 hp]
  refine ⟨by decide, ?_, ?_⟩
  · intro j i hi
    cases j with
    | succ j => simp at hi
    | zero =>
      have : i = inst0 4 0 0 0 0 := by simpa using hi.symm
      subst this
      refine ⟨.inr (.inr (.inr ⟨rfl, rfl, ⟨rfl, rfl, rfl, rfl, rfl, rfl, rfl⟩, rfl⟩)), ?_, ?_, ?_, ?_, ?_, ?_⟩
      · intro r hr; cases hr
      · intro _ x hx; cases hx
      · intro _; exact ⟨by decide, by decide⟩
      · exact ⟨by decide, by decide⟩
      · decide
      · exact ⟨by decide, by decide⟩
  · intro i hi
    rw [List.mem_singleton.1 hi]
    exact ⟨by decide, by decide, by decide, by decide⟩
theorem none_ok : ∀ p ∈ ([[]] : List (List Inst)), p.length ≤ 65536 ∧ PrOk 1 p ∧ ∀ i ∈ p, Sm i := by
  intro p hp
  rw [List.mem_singleton.1 hp]
  exact ⟨by decide, by intro j i hi; simp at hi, by intro i hi; cases hi⟩
theorem given_ok : ∀ g ∈ ([[]] : List (List Tn)), g.length ≤ 100000 ∧ ∀ t ∈ g, tnOk t = true := by
  intro p hp
  rw [List.mem_singleton.1 hp]
  exact ⟨by decide, by intro i hi; cases hi⟩

theorem c_known26 : Con Tryz.prog 30 #[] [] []
    (fun _ : Unit => True) (fun _ => .bool true) (fun _ => []) (fun _ => []) := by
  refine con_of (n := 60) Tryz.func30 rfl rfl rfl (by simp) ?_
  intro C hC
  refine T_seq (T_reg rfl ?_)
  refine V_q (q_asg rfl rfl) rfl rfl ?_
  refine V_next (fun _ => rfl) ?_
  refine T_seq (T_reg rfl ?_)
  refine V_l (l_bs [.slice none 0 0] rfl Tryz.underlying42 ty63 tz63 (by decide) rfl rfl rfl (by repeat (first | exact FillL.nil | apply FillL.cons rfl rfl (by repeat (first | exact PutL.z | apply PutL.s | apply PutL.t))))) rfl rfl ?_; rintro g6 -
  refine V_l (l_bs [.slice none 0 0] rfl Tryz.underlying43 ty77 tz77 (by decide) rfl rfl rfl (by repeat (first | exact FillL.nil | apply FillL.cons rfl rfl (by repeat (first | exact PutL.z | apply PutL.s | apply PutL.t))))) rfl rfl ?_; rintro g7 -
  refine V_ghost (fun w h => h.lit (rSl rInst) [[]] (g := g6) (n := 1) (k := 1) (cs := [.slice none 0 0]) (by repeat (first | with_reducible exact Sel.head | apply Sel.tail)) rfl (by decide) rfl (by decide) (EvP.one (R := rSl rInst) ⟨none, 0, 0, rfl, SlP.nil _ _ _⟩)) ?_
  refine V_ghost (fun w h => h.lit (rSl rTn) [[]] (g := g7) (n := 1) (k := 1) (cs := [.slice none 0 0]) (by repeat (first | with_reducible exact Sel.head | apply Sel.tail)) rfl (by decide) rfl (by decide) (EvP.one (R := rSl rTn) ⟨none, 0, 0, rfl, SlP.nil _ _ _⟩)) ?_
  have cn := c_New' [[]] [[]] 1 ⟨by decide, by decide⟩ rfl rfl none_ok given_ok (some ⟨g6, 0, none⟩) (some ⟨g7, 0, none⟩) 1 1
  refine V_l (l_call rfl ent24 rfl (cn) (by repeat (first | with_reducible exact Pick.nil | apply Pick.cons (by repeat (first | with_reducible exact Sel.head | apply Sel.tail)))) (by repeat (first | with_reducible exact Ins.nil | refine Ins.cons (by repeat (first | with_reducible exact In.head | apply In.tail)) ?_)) (fun _ => (by repeat (first | with_reducible exact App.nil | apply App.cons))) (fun _ => (by repeat (first | with_reducible exact App.nil | apply App.cons)))) rfl rfl ?_; rintro m -
  refine V_q (q_mov rfl rfl) rfl rfl ?_
  refine V_q (q_ext rfl rfl rfl) rfl rfl ?_
  refine V_q (q_ext rfl rfl rfl) rfl rfl ?_
  refine V_q (q_asg rfl rfl) rfl rfl ?_
  refine V_q (q_asg rfl rfl) rfl rfl ?_
  refine V_next (fun _ => rfl) ?_
  refine T_seq ?_
  refine T_seq (T_reg rfl ?_)
  refine V_q (q_mov rfl rfl) rfl rfl ?_
  refine V_q (q_eql_pointer rfl Tryz.underlying46 rfl rfl) rfl rfl ?_
  refine V_q (q_mov rfl rfl) rfl rfl ?_
  refine V_want (q_mov rfl rfl) rfl rfl ?_
  refine V_want (q_ne rfl rfl rfl) rfl rfl ?_
  refine V_q (q_pick rfl rfl rfl rfl) rfl rfl ?_
  refine V_next (fun _ => rfl) ?_
  refine T_cond rfl (fun hb => ?_) (fun hb => ?_)
  · cases hb
  refine T_skip_next (fun _ => rfl) ?_
  refine T_seq (T_reg rfl ?_)
  refine V_q (q_buildS rfl pl112 tz112 rfl rfl (by repeat (first | exact FillL.nil | apply FillL.cons rfl rfl (by repeat (first | exact PutL.z | apply PutL.s | apply PutL.t))))) rfl rfl ?_
  refine V_l (l_bs [.int .i64 0, .int .i64 0, .slice none 0 0, .int .i64 0, .slice none 0 0, .slice none 0 0, .slice none 0 0, .int .i64 0, .int .i64 0, .string ByteArray.empty, .int .i64 0, .int .i64 0, .int .i64 0] rfl Tryz.underlying63 ty112 tz112 (by decide) rfl rfl rfl (by repeat (first | exact FillL.nil | apply FillL.cons rfl rfl (by repeat (first | exact PutL.z | apply PutL.s | apply PutL.t))))) rfl rfl ?_; rintro g19 -
  refine V_ghost (fun w h => h.lit rInst [inst0 4 0 0 0 0] (g := g19) (n := 1) (k := 13) (cs := ic 4) (by repeat (first | with_reducible exact Sel.head | apply Sel.tail)) rfl (by decide) rfl (by decide) (EvP.one (R := rInst) (inst_p _ _ 4 0 0 0 0))) ?_
  refine V_l (l_bs [.slice none 0 0] rfl Tryz.underlying42 ty63 tz63 (by decide) rfl rfl rfl (by repeat (first | exact FillL.nil | apply FillL.cons rfl rfl (by repeat (first | exact PutL.z | apply PutL.s | apply PutL.t))))) rfl rfl ?_; rintro g20 -
  refine V_l (l_bs [.slice none 0 0] rfl Tryz.underlying43 ty77 tz77 (by decide) rfl rfl rfl (by repeat (first | exact FillL.nil | apply FillL.cons rfl rfl (by repeat (first | exact PutL.z | apply PutL.s | apply PutL.t))))) rfl rfl ?_; rintro g21 -
  refine V_ghost (fun w h => h.lit (rSl rInst) stuckL (g := g20) (n := 1) (k := 1) (cs := [.slice (some ⟨g19, 0, none⟩) 1 1]) (by repeat (first | with_reducible exact Sel.head | apply Sel.tail)) rfl (by decide) rfl (by decide) (EvP.one (R := rSl rInst) ⟨some ⟨g19, 0, none⟩, 1, 1, rfl, h.atom (A := aSl rInst [inst0 4 0 0 0 0] (some ⟨g19, 0, none⟩) 1 1) (by repeat (first | with_reducible exact In.head | apply In.tail))⟩)) ?_
  refine V_ghost (fun w h => h.lit (rSl rTn) [[]] (g := g21) (n := 1) (k := 1) (cs := [.slice none 0 0]) (by repeat (first | with_reducible exact Sel.head | apply Sel.tail)) rfl (by decide) rfl (by decide) (EvP.one (R := rSl rTn) ⟨none, 0, 0, rfl, SlP.nil _ _ _⟩)) ?_
  have cn := c_New' stuckL [[]] 1 ⟨by decide, by decide⟩ rfl rfl stuck_ok given_ok (some ⟨g20, 0, none⟩) (some ⟨g21, 0, none⟩) 1 1
  refine V_l (l_call rfl ent24 rfl (cn) (by repeat (first | with_reducible exact Pick.nil | apply Pick.cons (by repeat (first | with_reducible exact Sel.head | apply Sel.tail)))) (by repeat (first | with_reducible exact Ins.nil | refine Ins.cons (by repeat (first | with_reducible exact In.head | apply In.tail)) ?_)) (fun _ => (by repeat (first | with_reducible exact App.nil | apply App.cons))) (fun _ => (by repeat (first | with_reducible exact App.nil | apply App.cons)))) rfl rfl ?_; rintro s -
  refine V_q (q_mov rfl rfl) rfl rfl ?_
  refine V_q (q_ext rfl rfl rfl) rfl rfl ?_
  refine V_q (q_ext rfl rfl rfl) rfl rfl ?_
  refine V_q (q_asg rfl rfl) rfl rfl ?_
  refine V_q (q_asg rfl rfl) rfl rfl ?_
  refine V_next (fun _ => rfl) ?_
  refine T_seq ?_
  refine T_seq (T_reg rfl ?_)
  refine V_q (q_mov rfl rfl) rfl rfl ?_
  refine V_q (q_eql_pointer rfl Tryz.underlying46 rfl rfl) rfl rfl ?_
  refine V_q (q_mov rfl rfl) rfl rfl ?_
  refine V_want (q_mov rfl rfl) rfl rfl ?_
  refine V_want (q_ne rfl rfl rfl) rfl rfl ?_
  refine V_q (q_pick rfl rfl rfl rfl) rfl rfl ?_
  refine V_next (fun _ => rfl) ?_
  refine T_cond rfl (fun hb => ?_) (fun hb => ?_)
  · cases hb
  refine T_skip_next (fun _ => rfl) ?_
  refine T_seq (T_reg rfl ?_)
  refine V_l (l_bs [.slice none 0 0] rfl Tryz.underlying42 ty63 tz63 (by decide) rfl rfl rfl (by repeat (first | exact FillL.nil | apply FillL.cons rfl rfl (by repeat (first | exact PutL.z | apply PutL.s | apply PutL.t))))) rfl rfl ?_; rintro g31 -
  refine V_ghost (fun w h => h.lit (rSl rInst) [[]] (g := g31) (n := 1) (k := 1) (cs := [.slice none 0 0]) (by repeat (first | with_reducible exact Sel.head | apply Sel.tail)) rfl (by decide) rfl (by decide) (EvP.one (R := rSl rInst) ⟨none, 0, 0, rfl, SlP.nil _ _ _⟩)) ?_
  have cb0 := c_Bound [[]] (by intro p hp; rw [List.mem_singleton.1 hp]; decide) (by decide) (some ⟨g31, 0, none⟩) 1 1
  have cn1 := c_fairNext (n := 1) ⟨mkDev [[]] [[]] 1, [], 0⟩ m rfl (by decide) (by decide) (-1)
  have cs1 := c_Stuck (n := 1) ⟨mkDev [[]] [[]] 1, [], 0⟩ m rfl (by decide) (by decide)
  have cs2 := c_Stuck (n := 1) ⟨mkDev stuckL [[]] 1, [], 0⟩ s rfl (by decide) (by decide)
  refine V_l (l_call rfl ent62 rfl (cb0) (by repeat (first | with_reducible exact Pick.nil | apply Pick.cons (by repeat (first | with_reducible exact Sel.head | apply Sel.tail)))) (by repeat (first | with_reducible exact Ins.nil | refine Ins.cons (by repeat (first | with_reducible exact In.head | apply In.tail)) ?_)) (fun _ => (by repeat (first | with_reducible exact App.nil | apply App.cons))) (fun _ => (by repeat (first | with_reducible exact App.nil | apply App.cons)))) rfl rfl ?_; rintro g32 -
  refine V_q (q_eq rfl rfl rfl) rfl rfl ?_
  refine V_q (q_mov rfl rfl) rfl rfl ?_
  refine V_want (q_mov rfl rfl) rfl rfl ?_
  refine V_wantl (l_call rfl ent27 rfl (cn1) (by repeat (first | with_reducible exact Pick.nil | apply Pick.cons (by repeat (first | with_reducible exact Sel.head | apply Sel.tail)))) (by repeat (first | with_reducible exact Ins.nil | refine Ins.cons (by repeat (first | with_reducible exact In.head | apply In.tail)) ?_)) (fun _ => (by repeat (first | with_reducible exact App.nil | apply App.cons))) (fun _ => (by repeat (first | with_reducible exact App.nil | apply App.cons)))) rfl rfl ?_; rintro g36 -
  refine V_want (q_eq rfl rfl rfl) rfl rfl ?_
  refine V_q (q_pick rfl rfl rfl rfl) rfl rfl ?_
  refine V_q (q_mov rfl rfl) rfl rfl ?_
  refine V_want (q_mov rfl rfl) rfl rfl ?_
  refine V_wantl (l_call rfl ent29 rfl (cs1) (by repeat (first | with_reducible exact Pick.nil | apply Pick.cons (by repeat (first | with_reducible exact Sel.head | apply Sel.tail)))) (by repeat (first | with_reducible exact Ins.nil | refine Ins.cons (by repeat (first | with_reducible exact In.head | apply In.tail)) ?_)) (fun _ => (by repeat (first | with_reducible exact App.nil | apply App.cons))) (fun _ => (by repeat (first | with_reducible exact App.nil | apply App.cons)))) rfl rfl ?_; rintro g41 -
  refine V_want (q_not rfl rfl) rfl rfl ?_
  refine V_q (q_pick rfl rfl rfl rfl) rfl rfl ?_
  refine V_q (q_mov rfl rfl) rfl rfl ?_
  refine V_want (q_mov rfl rfl) rfl rfl ?_
  refine V_wantl (l_call rfl ent29 rfl (cs2) (by repeat (first | with_reducible exact Pick.nil | apply Pick.cons (by repeat (first | with_reducible exact Sel.head | apply Sel.tail)))) (by repeat (first | with_reducible exact Ins.nil | refine Ins.cons (by repeat (first | with_reducible exact In.head | apply In.tail)) ?_)) (fun _ => (by repeat (first | with_reducible exact App.nil | apply App.cons))) (fun _ => (by repeat (first | with_reducible exact App.nil | apply App.cons)))) rfl rfl ?_; rintro g46 -
  refine V_q (q_pick rfl rfl rfl rfl) rfl rfl ?_
  refine V_q (q_mov rfl rfl) rfl rfl ?_
  refine V_wantl (l_call rfl ent27 rfl (c_fairNext0) (by repeat (first | with_reducible exact Pick.nil | apply Pick.cons (by repeat (first | with_reducible exact Sel.head | apply Sel.tail)))) (by repeat (first | with_reducible exact Ins.nil | refine Ins.cons (by repeat (first | with_reducible exact In.head | apply In.tail)) ?_)) (fun _ => (by repeat (first | with_reducible exact App.nil | apply App.cons))) (fun _ => (by repeat (first | with_reducible exact App.nil | apply App.cons)))) rfl rfl ?_; rintro g49 -
  refine V_want (q_eq rfl rfl rfl) rfl rfl ?_
  refine V_q (q_pick rfl rfl rfl rfl) rfl rfl ?_
  refine V_q (q_mov rfl rfl) rfl rfl ?_
  refine V_want (q_buildS rfl pl112 tz112 rfl rfl (by repeat (first | exact FillL.nil | apply FillL.cons rfl rfl (by repeat (first | exact PutL.z | apply PutL.s | apply PutL.t))))) rfl rfl ?_
  refine V_want (q_buildS rfl pl112 tz112 rfl rfl (by repeat (first | exact FillL.nil | apply FillL.cons rfl rfl (by repeat (first | exact PutL.z | apply PutL.s | apply PutL.t))))) rfl rfl ?_
  refine V_wantl (l_bs [.int .i64 0, .int .i64 0, .slice none 0 0, .int .i64 0, .slice none 0 0, .slice none 0 0, .slice none 0 0, .int .i64 0, .int .i64 0, .string ByteArray.empty, .int .i64 0, .int .i64 0, .int .i64 0, .int .i64 0, .int .i64 0, .slice none 0 0, .int .i64 0, .slice none 0 0, .slice none 0 0, .slice none 0 0, .int .i64 0, .int .i64 0, .string ByteArray.empty, .int .i64 0, .int .i64 0, .int .i64 0] rfl Tryz.underlying63 ty112 tz112 (by decide) rfl rfl rfl (by repeat (first | exact FillL.nil | apply FillL.cons rfl rfl (by repeat (first | exact PutL.z | apply PutL.s | apply PutL.t))))) rfl rfl ?_; rintro g55 -
  refine V_ghost (fun w h => h.lit rInst [inst0 0 0 0 0 0, inst0 0 0 0 0 0] (g := g55) (n := 2) (k := 13) (cs := [.int .i64 0, .int .i64 0, .slice none 0 0, .int .i64 0, .slice none 0 0, .slice none 0 0, .slice none 0 0, .int .i64 0, .int .i64 0, .string ByteArray.empty, .int .i64 0, .int .i64 0, .int .i64 0, .int .i64 0, .int .i64 0, .slice none 0 0, .int .i64 0, .slice none 0 0, .slice none 0 0, .slice none 0 0, .int .i64 0, .int .i64 0, .string ByteArray.empty, .int .i64 0, .int .i64 0, .int .i64 0]) (by repeat (first | with_reducible exact Sel.head | apply Sel.tail)) rfl (by decide) rfl (by decide) (EvP.snoc (R := rInst) (EvP.one (R := rInst) (inst_p _ _ 0 0 0 0 0)) (inst_p _ _ 0 0 0 0 0))) ?_
  refine V_wantl (l_bs [.slice none 0 0] rfl Tryz.underlying42 ty63 tz63 (by decide) rfl rfl rfl (by repeat (first | exact FillL.nil | apply FillL.cons rfl rfl (by repeat (first | exact PutL.z | apply PutL.s | apply PutL.t))))) rfl rfl ?_; rintro g56 -
  refine V_ghost (fun w h => h.lit (rSl rInst) [[inst0 0 0 0 0 0, inst0 0 0 0 0 0]] (g := g56) (n := 1) (k := 1) (cs := [.slice (some ⟨g55, 0, none⟩) 2 2]) (by repeat (first | with_reducible exact Sel.head | apply Sel.tail)) rfl (by decide) rfl (by decide) (EvP.one (R := rSl rInst) ⟨some ⟨g55, 0, none⟩, 2, 2, rfl, h.atom (A := aSl rInst [inst0 0 0 0 0 0, inst0 0 0 0 0 0] (some ⟨g55, 0, none⟩) 2 2) (by repeat (first | with_reducible exact In.head | apply In.tail))⟩)) ?_
  have cb2 := c_Bound [[inst0 0 0 0 0 0, inst0 0 0 0 0 0]] (by intro p hp; rw [List.mem_singleton.1 hp]; decide) (by decide) (some ⟨g56, 0, none⟩) 1 1
  refine V_wantl (l_call rfl ent62 rfl (cb2) (by repeat (first | with_reducible exact Pick.nil | apply Pick.cons (by repeat (first | with_reducible exact Sel.head | apply Sel.tail)))) (by repeat (first | with_reducible exact Ins.nil | refine Ins.cons (by repeat (first | with_reducible exact In.head | apply In.tail)) ?_)) (fun _ => (by repeat (first | with_reducible exact App.nil | apply App.cons))) (fun _ => (by repeat (first | with_reducible exact App.nil | apply App.cons)))) rfl rfl ?_; rintro g57 -
  refine V_want (q_eq rfl rfl rfl) rfl rfl ?_
  refine V_q (q_pick rfl rfl rfl rfl) rfl rfl ?_
  refine V_q (q_asg rfl rfl) rfl rfl ?_
  refine V_next (fun _ => rfl) ?_
  exact T_ret fun w h => ⟨_, res_1 rfl, (), trivial, rfl, h.weak (List.nil_sublist _) (by simp)⟩
end Go.Proofs.YtgbhegmhbeekpaaGreat
