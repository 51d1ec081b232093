/-
  Contracts: tensors, tapes, messages looked for.
-/
import Derived.Test.YtgbhegmhbeekpaaGreatB1
namespace Go.Proofs.YtgbhegmhbeekpaaGreat
open Go
set_option maxRecDepth 100000

structure Tn where
  sh : List Int
  da : List Int
  deriving DecidableEq

structure Msg where
  fr : Int
  to : Int
  tag : Int
  t : Tn
  deriving DecidableEq

abbrev I := rInt .i64

theorem sl_len {α : Type} {R : Rep α} {C : Ctx} {own : List Res} {ats : List Atom} {w : World} {xs : List α} {a : Option Addr} {n c : Nat} (h : St C own ats w) (hs : In (aSl R xs a n c) ats) : n = xs.length ∧ n ≤ c ∧ c ≤ maxLen :=
  let h1 : SlP _ _ _ _ _ _ _ := h.atom hs
  ⟨h1.1, h1.2.1, h1.2.2.1⟩

theorem c_Copy (sh da : List Int) (a b : Option Addr) (n c m d : Nat) (h1 : n * 8 ≤ 140737488355328) (h2 : m * 8 ≤ 140737488355328) : Con Tryz.prog 61 #[.agg #[.slice a n c, .slice b m d]] [] [aSl I sh a n c, aSl I da b m d]
    (fun _ : (Option Addr × Nat) × (Option Addr × Nat) => True) (fun y => .agg #[.slice y.1.1 n y.1.2, .slice y.2.1 m y.2.2]) (fun _ => []) (fun y => [aSl I sh y.1.1 n y.1.2, aSl I da y.2.1 m y.2.2]) := by
  refine con_of (n := 10) Tryz.func61 rfl rfl rfl (by simp) ?_
  intro C hC
  refine T_seq (T_reg rfl ?_)
  refine V_l (l_boxA rfl rfl) rfl rfl ?_; rintro g1 -
  refine V_l (l_alloc (cs := [.slice none 0 0, .slice none 0 0]) rfl tz28 rfl) rfl rfl ?_; rintro g2 -
  refine V_next (fun _ => rfl) ?_
  refine T_seq (T_drawn hmix (.pure 0 <| .quiet 1 <| .pure 3 <| .quiet 4 <| .loud 2 <| .loud 5 <| .pure 6 <| .bar 7 <| .fin) (by decide +kernel) ?_)
  refine W_p rfl (q_fa rfl fd28_0 rfl) rfl rfl ?_
  refine W_ld rfl rfl ty22 rfl (by repeat (first | with_reducible exact Sel.head | apply Sel.tail)) rfl rfl rfl ?_
  refine W_p rfl (q_fa rfl fd28_1 rfl) rfl rfl ?_
  refine W_ld rfl rfl ty26 rfl (by repeat (first | with_reducible exact Sel.head | apply Sel.tail)) rfl rfl rfl ?_
  refine W_l rfl (l_call rfl ent90 rfl (c_CloneI sh a n c h1) (by repeat (first | with_reducible exact Pick.nil | apply Pick.cons (by repeat (first | with_reducible exact Sel.head | apply Sel.tail)))) (by repeat (first | with_reducible exact Ins.nil | refine Ins.cons (by repeat (first | with_reducible exact In.head | apply In.tail)) ?_)) (fun _ => (by repeat (first | with_reducible exact App.nil | apply App.cons))) (fun _ => (by repeat (first | with_reducible exact App.nil | apply App.cons)))) (fun _ _ h => by repeat (first | exact trivial | refine ⟨?_, h.weak (by repeat (first | exact List.Sublist.refl _ | exact List.nil_sublist _ | with_reducible apply List.Sublist.cons_cons | apply List.Sublist.cons)) (by simp +contextual)⟩)) rfl rfl ?_; rintro ⟨a', c'⟩ -
  refine W_l rfl (l_call rfl ent91 rfl (c_CloneL da b m d h2) (by repeat (first | with_reducible exact Pick.nil | apply Pick.cons (by repeat (first | with_reducible exact Sel.head | apply Sel.tail)))) (by repeat (first | with_reducible exact Ins.nil | refine Ins.cons (by repeat (first | with_reducible exact In.head | apply In.tail)) ?_)) (fun _ => (by repeat (first | with_reducible exact App.nil | apply App.cons))) (fun _ => (by repeat (first | with_reducible exact App.nil | apply App.cons)))) (fun _ _ h => by repeat (first | exact trivial | refine ⟨?_, h.weak (by repeat (first | exact List.Sublist.refl _ | exact List.nil_sublist _ | with_reducible apply List.Sublist.cons_cons | apply List.Sublist.cons)) (by simp +contextual)⟩)) rfl rfl ?_; rintro ⟨b', d'⟩ -
  refine W_p rfl (q_buildS rfl pl28 tz28 rfl rfl (by repeat (first | exact FillL.nil | apply FillL.cons rfl rfl (by repeat (first | exact PutL.z | apply PutL.s | apply PutL.t))))) rfl rfl ?_
  refine W_bn rfl (l_st rfl ty28 rfl rfl rfl rfl rfl (by repeat (first | with_reducible exact Put.head | apply Put.tail)) (by repeat (first | exact PutL.z | apply PutL.s | apply PutL.t))) rfl rfl ?_; rintro ⟨⟩ -
  refine W_next (fun _ => rfl) ?_
  exact T_ret fun w h => ⟨_, res_c rfl ty28 rfl (h.res (by repeat (first | with_reducible exact Sel.head | apply Sel.tail))), ((a', c'), (b', d')), trivial, rfl, h.weak (List.nil_sublist _) (by simp)⟩

theorem c_Same (sh da sh' da' : List Int) (a b a' b' : Option Addr) (n c m d n' c' m' d' : Nat) : Con Tryz.prog 32 #[.agg #[.slice a n c, .slice b m d], .agg #[.slice a' n' c', .slice b' m' d']] [] [aSl I sh a n c, aSl I da b m d, aSl I sh' a' n' c', aSl I da' b' m' d']
    (fun _ : Unit => True) (fun _ => .bool (decide (sh = sh' ∧ da = da'))) (fun _ => []) (fun _ => []) := by
  refine con_of (n := 39) Tryz.func32 rfl rfl rfl (by simp) ?_
  intro C hC
  refine T_pure (φ := m = da.length ∧ m ≤ maxLen ∧ m' = da'.length) (fun w h => ⟨(sl_len h (xs := da) (a := b) (by repeat (first | with_reducible exact In.head | apply In.tail))).1, Nat.le_trans (sl_len h (xs := da) (a := b) (by repeat (first | with_reducible exact In.head | apply In.tail))).2.1 (sl_len h (xs := da) (a := b) (by repeat (first | with_reducible exact In.head | apply In.tail))).2.2, (sl_len h (xs := da') (a := b') (by repeat (first | with_reducible exact In.head | apply In.tail))).1⟩) (fun hlen => ?_)
  obtain ⟨hm, hmax, hm'⟩ := hlen
  unfold maxLen at hmax
  refine T_seq (T_reg rfl ?_)
  refine V_l (l_boxA rfl rfl) rfl rfl ?_; rintro g2 -
  refine V_l (l_boxA rfl rfl) rfl rfl ?_; rintro g3 -
  refine V_q (q_asg rfl rfl) rfl rfl ?_
  refine V_next (fun _ => rfl) ?_
  refine T_seq ?_
  refine T_seq (T_reg rfl ?_)
  refine V_q (q_fa rfl fd28_0 rfl) rfl rfl ?_
  refine V_q (q_ld rfl ty22 rfl (by repeat (first | with_reducible exact Sel.head | apply Sel.tail)) rfl) rfl rfl ?_
  refine V_q (q_fa rfl fd28_0 rfl) rfl rfl ?_
  refine V_q (q_ld rfl ty22 rfl (by repeat (first | with_reducible exact Sel.head | apply Sel.tail)) rfl) rfl rfl ?_
  refine V_l (l_call rfl ent64 rfl (c_Ints sh sh' a a' n n' c c') (by repeat (first | with_reducible exact Pick.nil | apply Pick.cons (by repeat (first | with_reducible exact Sel.head | apply Sel.tail)))) (by repeat (first | with_reducible exact Ins.nil | refine Ins.cons (by repeat (first | with_reducible exact In.head | apply In.tail)) ?_)) (fun _ => (by repeat (first | with_reducible exact App.nil | apply App.cons))) (fun _ => (by repeat (first | with_reducible exact App.nil | apply App.cons)))) rfl rfl ?_; rintro ⟨⟩ -
  refine V_q (q_not rfl rfl) rfl rfl ?_
  refine V_q (q_mov rfl rfl) rfl rfl ?_
  by_cases hs : sh = sh'
  rotate_left
  · rw [decide_eq_false hs]
    refine V_skip rfl rfl ?_
    refine V_skip rfl rfl ?_
    refine V_skip rfl rfl ?_
    refine V_skip rfl rfl ?_
    refine V_skip rfl rfl ?_
    refine V_skip rfl rfl ?_
    refine V_skip rfl rfl ?_
    refine V_q (q_pick rfl rfl rfl rfl) rfl rfl ?_
    refine V_next (fun _ => rfl) ?_
    refine T_cond rfl (fun hb => ?_) (fun hb => ?_)
    · refine T_seq (T_reg rfl ?_)
      refine V_q (q_asg rfl rfl) rfl rfl ?_
      refine V_next (fun _ => rfl) ?_
      exact T_ret fun w h => ⟨_, res_1 rfl, (), trivial, by simp [hs], h.weak (List.nil_sublist _) (by simp)⟩
    · simp at hb
  rw [decide_eq_true hs]
  refine V_want (q_fa rfl fd28_1 rfl) rfl rfl ?_
  refine V_want (q_ld rfl ty26 rfl (by repeat (first | with_reducible exact Sel.head | apply Sel.tail)) rfl) rfl rfl ?_
  refine V_want (q_len rfl Tryz.underlying26 rfl) rfl rfl ?_
  refine V_want (q_fa rfl fd28_1 rfl) rfl rfl ?_
  refine V_want (q_ld rfl ty26 rfl (by repeat (first | with_reducible exact Sel.head | apply Sel.tail)) rfl) rfl rfl ?_
  refine V_want (q_len rfl Tryz.underlying26 rfl) rfl rfl ?_
  refine V_want (q_ne rfl rfl rfl) rfl rfl ?_
  refine V_q (q_pick rfl rfl rfl rfl) rfl rfl ?_
  refine V_next (fun _ => rfl) ?_
  refine T_cond rfl (fun hb => ?_) (fun hb => ?_)
  · refine T_seq (T_reg rfl ?_)
    refine V_q (q_asg rfl rfl) rfl rfl ?_
    refine V_next (fun _ => rfl) ?_
    have : da ≠ da' := by rintro rfl; simp at hb; omega
    exact T_ret fun w h => ⟨_, res_1 rfl, (), trivial, by simp [this], h.weak (List.nil_sublist _) (by simp)⟩
  have hnm : m = m' := by simp at hb; omega
  subst hnm
  clear hb
  refine T_skip_next (fun _ => rfl) ?_
  refine T_seq ?_
  refine T_seq (T_reg rfl ?_)
  refine V_q (q_asg rfl rfl) rfl rfl ?_
  refine V_next (fun _ => rfl) ?_
  refine T_block ?_
  refine T_loop (fun k : Nat => [(2, .pointer (some ⟨g2, 0, none⟩)), (3, .pointer (some ⟨g3, 0, none⟩)), (5, .int .i64 k)]) (fun _ => [rBlk g3 28 [.slice a' n' c', .slice b' m d'], rBlk g2 28 [.slice a n c, .slice b m d]]) (fun _ => [aSl I da b m d, aSl I da' b' m d'])
    (fun k => k ≤ m ∧ da.take k = da'.take k) (fun k => m - k) 0 ⟨by omega, by simp⟩ ⟨rfl, rfl, rfl, trivial⟩ (fun w h => h.weak (List.Sublist.refl _) (by simp)) ?_
  rintro k ⟨hk, hkk⟩
  refine T_seq ?_
  refine T_seq (T_reg rfl ?_)
  refine V_q (q_mov rfl rfl) rfl rfl ?_
  refine V_q (q_fa rfl fd28_1 rfl) rfl rfl ?_
  refine V_q (q_ld rfl ty26 rfl (by repeat (first | with_reducible exact Sel.head | apply Sel.tail)) rfl) rfl rfl ?_
  refine V_q (q_len rfl Tryz.underlying26 rfl) rfl rfl ?_
  refine V_q (q_lt rfl rfl rfl) rfl rfl ?_
  refine V_next (fun _ => rfl) ?_
  refine T_cond rfl (fun hb => ?_) (fun hb => ?_)
  rotate_left
  · have hkn : k = m := by simp at hb; omega
    have hxy : da = da' := by rw [hkn] at hkk; rwa [List.take_of_length_le (by omega), List.take_of_length_le (by omega)] at hkk
    refine T_exit_next (fun _ => rfl) ?_
    refine T_seq (T_reg rfl ?_)
    refine V_q (q_asg rfl rfl) rfl rfl ?_
    refine V_next (fun _ => rfl) ?_
    exact T_ret fun w h => ⟨_, res_1 rfl, (), trivial, by simp [hs, hxy], h.weak (List.nil_sublist _) (by simp)⟩
  have hkn : k < m := by simp at hb; omega
  clear hb
  refine T_skip_next (fun _ => rfl) ?_
  refine T_seq ?_
  refine T_block ?_
  refine T_seq (T_drawn hmix (.pure 0 <| .quiet 1 <| .pure 2 <| .quiet 3 <| .quiet 4 <| .pure 5 <| .quiet 6 <| .pure 7 <| .quiet 8 <| .quiet 9 <| .pure 10 <| .fin) (by decide +kernel) ?_)
  refine W_p rfl (q_fa rfl fd28_1 rfl) rfl rfl ?_
  refine W_ld rfl rfl ty26 rfl (by repeat (first | with_reducible exact Sel.head | apply Sel.tail)) rfl rfl rfl ?_
  refine W_p rfl (q_mov rfl rfl) rfl rfl ?_
  refine W_a rfl (q_iaN rfl Tryz.underlying26 ty2 rfl rfl (by omega) (by repeat (first | with_reducible exact In.head | apply In.tail))) rfl rfl ?_
  refine W_a rfl (q_ldN rfl ty2 rfl (by repeat (first | with_reducible exact In.head | apply In.tail)) (by omega)) rfl rfl ?_
  refine W_p rfl (q_fa rfl fd28_1 rfl) rfl rfl ?_
  refine W_ld rfl rfl ty26 rfl (by repeat (first | with_reducible exact Sel.head | apply Sel.tail)) rfl rfl rfl ?_
  refine W_p rfl (q_mov rfl rfl) rfl rfl ?_
  refine W_a rfl (q_iaN rfl Tryz.underlying26 ty2 rfl rfl (by omega) (by repeat (first | with_reducible exact In.head | apply In.tail))) rfl rfl ?_
  refine W_a rfl (q_ldN rfl ty2 rfl (by repeat (first | with_reducible exact In.head | apply In.tail)) (by omega)) rfl rfl ?_
  refine W_p rfl (q_ne rfl rfl rfl) rfl rfl ?_
  refine W_next (fun _ => rfl) ?_
  have hxk : da.getD k 0 = da[k]'(by omega) := by simp [List.getD_eq_getElem?_getD, List.getElem?_eq_getElem (show k < da.length by omega)]
  have hyk : da'.getD k 0 = da'[k]'(by omega) := by simp [List.getD_eq_getElem?_getD, List.getElem?_eq_getElem (show k < da'.length by omega)]
  rw [hxk, hyk]
  refine T_cond rfl (fun hb => ?_) (fun hb => ?_)
  · refine T_seq (T_reg rfl ?_)
    refine V_q (q_asg rfl rfl) rfl rfl ?_
    refine V_next (fun _ => rfl) ?_
    have : da ≠ da' := by rintro rfl; simp at hb
    exact T_ret fun w h => ⟨_, res_1 rfl, (), trivial, by simp [this], h.weak (List.nil_sublist _) (by simp)⟩
  have hxy : da[k]'(by omega) = da'[k]'(by omega) := by simpa using hb
  refine T_skip_next (fun _ => rfl) ?_
  refine T_reg rfl ?_
  refine V_q (q_mov rfl rfl) rfl rfl ?_
  refine V_q (q_addI rfl rfl rfl (by omega)) rfl rfl ?_
  refine V_q (q_asg rfl rfl) rfl rfl ?_
  refine V_nil ?_
  intro w h
  refine ⟨k + 1, ⟨by omega, by omega, ?_⟩, ⟨rfl, rfl, rfl, trivial⟩, h⟩
  rw [List.take_succ_eq_append_getElem (by omega), List.take_succ_eq_append_getElem (by omega), hkk, hxy]
end Go.Proofs.YtgbhegmhbeekpaaGreat
