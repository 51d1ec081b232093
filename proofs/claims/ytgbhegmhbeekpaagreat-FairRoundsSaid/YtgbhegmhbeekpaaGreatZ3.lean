/-
  Tensors of a tape.
-/
import Derived.Test.YtgbhegmhbeekpaaGreatZ2
import Derived.Test.YtgbhegmhbeekpaaGreatFrSet
namespace Go.Proofs.YtgbhegmhbeekpaaGreat
open Go
set_option maxRecDepth 100000

theorem szOf_bounds (s : List Int) : 0 ≤ szOf s ∧ szOf s ≤ 4096 := by
  unfold szOf
  split
  · rename_i h
    obtain ⟨h4, hdm, h3⟩ := (shOk_iff s).1 h
    have := prod_bounds s.length s (Nat.le_refl _) fun j hj _ => dims_get hdm hj
    rw [List.take_length] at this
    exact ⟨this.1, h3⟩
  · omega

theorem c_Fill (s : List Int) (x : Int) (a : Option Addr) (n c : Nat) (hby : n * 8 ≤ 140737488355328) : Con Tryz.prog 49 #[.slice a n c, .int .i64 x] [] [aSl I s a n c]
    (fun _ : (Option Addr × Nat) × Option Addr × Nat => True) (fun y => .agg #[.slice y.1.1 n y.1.2, .slice y.2.1 (szOf s).toNat y.2.2])
    (fun y => [rOwn 2 1 (.slice y.2.1 (szOf s).toNat y.2.2) (szOf s).toNat (List.replicate (szOf s).toNat (.int .i64 x))]) (fun y => [aSl I s y.1.1 n y.1.2]) := by
  refine con_of (n := 24) Tryz.func49 rfl rfl rfl (by simp) ?_
  intro C hC
  have hsz := szOf_bounds s
  refine T_seq (T_reg rfl ?_)
  refine V_l (l_alloc (cs := [.slice none 0 0, .slice none 0 0]) rfl tz28 rfl) rfl rfl ?_; rintro g4 -
  refine V_next (fun _ => rfl) ?_
  refine T_seq (T_reg rfl ?_)
  refine V_l (l_bsO [] rfl Tryz.underlying22 ty3 tz3 (by decide) rfl rfl rfl (by repeat (first | exact FillL.nil | apply FillL.cons rfl rfl (by repeat (first | exact PutL.z | apply PutL.s | apply PutL.t)))) rfl (by decide)) rfl rfl ?_; rintro g7 -
  refine V_q (q_mov rfl rfl) rfl rfl ?_
  refine V_l (l_appS I rfl Tryz.underlying22 ty3 tz3 tb3 rfl rfl (by decide) rfl rfl (xs := s) (by repeat (first | with_reducible exact In.head | apply In.tail)) (fun _ _ => (by repeat (first | with_reducible exact Put.head | apply Put.tail))) (by unfold maxLen; omega) (by omega)) rfl rfl ?_; rintro ⟨news, v9⟩ -
  refine V_seal I (k := 1) rfl (by decide) (xs := s) Sel.head In.head fun a' c' hv => ?_
  replace hv : v9 = .slice a' (0 + n) c' := hv
  rw [Nat.zero_add] at hv
  subst hv
  refine V_q (q_buildS rfl pl28 tz28 rfl rfl (by repeat (first | exact FillL.nil | apply FillL.cons rfl rfl (by repeat (first | exact PutL.z | apply PutL.s | apply PutL.t))))) rfl rfl ?_
  refine V_l (l_alloc (cs := [.slice none 0 0, .slice none 0 0]) rfl tz28 rfl) rfl rfl ?_; rintro g5 -
  refine V_n (l_st rfl ty28 rfl rfl rfl rfl rfl (by repeat (first | with_reducible exact Put.head | apply Put.tail)) (by repeat (first | exact PutL.z | apply PutL.s | apply PutL.t))) rfl rfl ?_; rintro ⟨⟩ -
  refine V_next (fun _ => rfl) ?_
  refine T_ghost (fun w h => h.rowNil 2 1) ?_
  refine T_seq ?_
  refine T_seq (T_reg rfl ?_)
  refine V_q (q_asg rfl rfl) rfl rfl ?_
  refine V_next (fun _ => rfl) ?_
  refine T_block ?_
  refine T_loop (fun y : Nat × Option Addr × Nat => [(0, .slice a n c), (1, .int .i64 x), (4, .pointer (some ⟨g4, 0, none⟩)), (5, .pointer (some ⟨g5, 0, none⟩)), (6, .int .i64 y.1)])
    (fun y => [rOwn 2 1 (.slice y.2.1 y.1 y.2.2) y.1 (List.replicate y.1 (.int .i64 x)), rBlk g5 28 [.slice a' n c', .slice y.2.1 y.1 y.2.2], rBlk g4 28 [.slice none 0 0, .slice none 0 0]])
    (fun _ => [aSl I s a' n c', aSl I s a n c]) (fun y => y.1 ≤ (szOf s).toNat) (fun y => (szOf s).toNat - y.1) (0, none, 0) (Nat.zero_le _) ⟨rfl, rfl, rfl, rfl, rfl, trivial⟩ (fun w h => h.weak (List.Sublist.refl _) ?_) ?_
  · intro A hA
    rcases List.mem_cons.1 hA with rfl | hA
    · rw [Nat.zero_add]; exact List.mem_cons_self ..
    · simp at hA; simp [hA]
  rintro ⟨i, da, dc⟩ hi
  replace hi : i ≤ (szOf s).toNat := hi
  refine T_seq ?_
  refine T_seq (T_reg rfl ?_)
  refine V_q (q_mov rfl rfl) rfl rfl ?_
  refine V_q (q_mov rfl rfl) rfl rfl ?_
  refine V_l (l_call rfl ent77 rfl (c_refSize s a n c) (by repeat (first | with_reducible exact Pick.nil | apply Pick.cons (by repeat (first | with_reducible exact Sel.head | apply Sel.tail)))) (by repeat (first | with_reducible exact Ins.nil | refine Ins.cons (by repeat (first | with_reducible exact In.head | apply In.tail)) ?_)) (fun _ => (by repeat (first | with_reducible exact App.nil | apply App.cons))) (fun _ => (by repeat (first | with_reducible exact App.nil | apply App.cons)))) rfl rfl ?_; rintro g13 -
  refine V_q (q_lt rfl rfl rfl) rfl rfl ?_
  refine V_next (fun _ => rfl) ?_
  refine T_cond rfl (fun hb => ?_) (fun hb => ?_)
  rotate_left
  · have hi' : i = (szOf s).toNat := by
      have : ¬ (i : Int) < szOf s := by simpa using hb
      omega
    subst hi'
    refine T_exit_next (fun _ => rfl) ?_
    refine T_seq (T_reg rfl ?_)
    refine V_q (q_ldA rfl ty28 rfl (by repeat (first | with_reducible exact Sel.head | apply Sel.tail)) (by repeat (first | exact SubL.z | apply SubL.s | apply SubL.t))) rfl rfl ?_
    refine V_n (l_st rfl ty28 rfl rfl rfl rfl rfl (by repeat (first | with_reducible exact Put.head | apply Put.tail)) (by repeat (first | exact PutL.z | apply PutL.s | apply PutL.t))) rfl rfl ?_; rintro ⟨⟩ -
    refine V_next (fun _ => rfl) ?_
    exact T_ret fun w h => ⟨_, res_c rfl ty28 rfl (h.res (by repeat (first | with_reducible exact Sel.head | apply Sel.tail))), ((a', c'), (da, dc)), trivial, rfl, h.pick (by repeat (first | with_reducible exact Pick.nil | apply Pick.cons (by repeat (first | with_reducible exact Sel.head | apply Sel.tail)))) (by simp)⟩
  have hin : i < (szOf s).toNat := by
    have : (i : Int) < szOf s := by simpa using hb
    omega
  clear hb
  refine T_skip_next (fun _ => rfl) ?_
  refine T_seq ?_
  refine T_block ?_
  refine T_reg rfl ?_
  refine V_q (q_fa rfl fd28_1 rfl) rfl rfl ?_
  refine V_q (q_ld rfl ty26 rfl (by repeat (first | with_reducible exact Sel.head | apply Sel.tail)) rfl) rfl rfl ?_
  refine V_q (q_mov rfl rfl) rfl rfl ?_
  refine V_l (l_bs [.int .i64 0] rfl Tryz.underlying26 ty2 tz2 (by decide) rfl rfl rfl (by repeat (first | exact FillL.nil | apply FillL.cons rfl rfl (by repeat (first | exact PutL.z | apply PutL.s | apply PutL.t))))) rfl rfl ?_; rintro g20 -
  refine V_l (l_appB rfl Tryz.underlying26 ty2 tz2 tb2 rfl (by decide) rfl rfl (by repeat (first | with_reducible exact Sel.head | apply Sel.tail)) (fun _ => (by repeat (first | with_reducible exact Put.head | apply Put.tail))) rfl rfl (by simp [maxLen]; omega) (by simp; omega)) rfl rfl ?_; rintro v21 -
  refine V_slice (e := 2) (k := 1) (n := i + 1) (v := v21) (by repeat (first | with_reducible exact Sel.head | apply Sel.tail)) fun da' dc' hv => ?_
  subst hv
  refine V_q (q_fa rfl fd28_1 rfl) rfl rfl ?_
  refine V_n (l_st rfl ty26 rfl rfl rfl rfl rfl (by repeat (first | with_reducible exact Put.head | apply Put.tail)) (by repeat (first | exact PutL.z | apply PutL.s | apply PutL.t))) rfl rfl ?_; rintro ⟨⟩ -
  refine V_next (fun _ => rfl) ?_
  refine T_reg rfl ?_
  refine V_q (q_mov rfl rfl) rfl rfl ?_
  refine V_q (q_addI rfl rfl rfl (by omega)) rfl rfl ?_
  refine V_q (q_asg rfl rfl) rfl rfl ?_
  refine V_nil ?_
  intro w h
  refine ⟨(i + 1, da', dc'), ⟨by show (szOf s).toNat - (i + 1) < (szOf s).toNat - i; omega, by show i + 1 ≤ (szOf s).toNat; omega⟩, ⟨rfl, rfl, rfl, rfl, rfl, trivial⟩, ?_⟩
  have e : List.replicate (i + 1) (Value.int .i64 x) = List.replicate i (.int .i64 x) ++ [.int .i64 x] := List.replicate_succ'
  show St C [rOwn 2 1 _ (i + 1) (List.replicate (i + 1) (Value.int .i64 x)), _, _] _ _
  rw [e]
  exact h.pick (by repeat (first | with_reducible exact Pick.nil | apply Pick.cons (by repeat (first | with_reducible exact Sel.head | apply Sel.tail)))) (by simp)

def nums (L : List Int) (p : Nat) : Nat → List Int × Nat
  | 0 => ([], p)
  | k + 1 => ((nums L p k).1 ++ [(num L (nums L p k).2).1], (num L (nums L p k).2).2)
theorem nums_len (L : List Int) (p : Nat) : ∀ k, (nums L p k).1.length = k
  | 0 => rfl
  | k + 1 => by simp [nums, nums_len L p k]
def rowAt (L : List Int) (p K i : Nat) : List Value := ((nums L p i).1 ++ List.replicate (K - i) 0).map (.int .i64)
theorem rowAt_set (L : List Int) (p K i : Nat) (h : i < K) : (rowAt L p K i).set i (.int .i64 (num L (nums L p i).2).1) = rowAt L p K (i + 1) := by
  unfold rowAt
  obtain ⟨m, rfl⟩ : ∃ m, K = i + 1 + m := ⟨K - (i + 1), by omega⟩
  have e1 : i + 1 + m - i = m + 1 := by omega
  have e2 : i + 1 + m - (i + 1) = m := by omega
  rw [e1, e2, List.map_append, List.map_append, List.set_append_right _ _ (by simp [nums_len])]
  simp [nums, nums_len, List.replicate_succ]

theorem c_Tensor (L s : List Int) (b a : Option Addr) (m d n c g p : Nat) (hby : n * 8 ≤ 140737488355328) : Con Tryz.prog 48 #[.pointer (some ⟨g, 0, none⟩), .slice a n c] [rBlk g 25 [.slice b m d, .int .i64 p]] [aSl I L b m d, aSl I s a n c]
    (fun _ : (Option Addr × Nat) × Option Addr × Nat => True) (fun y => .agg #[.slice y.1.1 n y.1.2, .slice y.2.1 (szOf s).toNat y.2.2])
    (fun _ => [rBlk g 25 [.slice b m d, .int .i64 (nums L p (szOf s).toNat).2]]) (fun y => [aSl I s y.1.1 n y.1.2, aSl I (nums L p (szOf s).toNat).1 y.2.1 (szOf s).toNat y.2.2]) := by
  refine con_of (n := 23) Tryz.func48 rfl rfl rfl (by simp) ?_
  intro C hC
  have hsz := szOf_bounds s
  refine T_seq (T_reg rfl ?_)
  refine V_l (l_alloc (cs := [.slice none 0 0, .slice none 0 0]) rfl tz28 rfl) rfl rfl ?_; rintro g4 -
  refine V_next (fun _ => rfl) ?_
  refine T_seq (T_reg rfl ?_)
  refine V_q (q_mov rfl rfl) rfl rfl ?_
  refine V_l (l_call rfl ent49 rfl (c_Fill s 0 a n c hby) (by repeat (first | with_reducible exact Pick.nil | apply Pick.cons (by repeat (first | with_reducible exact Sel.head | apply Sel.tail)))) (by repeat (first | with_reducible exact Ins.nil | refine Ins.cons (by repeat (first | with_reducible exact In.head | apply In.tail)) ?_)) (fun _ => (by repeat (first | with_reducible exact App.nil | apply App.cons))) (fun _ => (by repeat (first | with_reducible exact App.nil | apply App.cons)))) rfl rfl ?_; rintro ⟨⟨a', c'⟩, da, dc⟩ -
  refine V_l (l_alloc (cs := [.slice none 0 0, .slice none 0 0]) rfl tz28 rfl) rfl rfl ?_; rintro g5 -
  refine V_n (l_st rfl ty28 rfl rfl rfl rfl rfl (by repeat (first | with_reducible exact Put.head | apply Put.tail)) (by repeat (first | exact PutL.z | apply PutL.s | apply PutL.t))) rfl rfl ?_; rintro ⟨⟩ -
  refine V_next (fun _ => rfl) ?_
  refine T_seq ?_
  refine T_seq (T_reg rfl ?_)
  refine V_q (q_fa rfl fd28_1 rfl) rfl rfl ?_
  refine V_q (q_ld rfl ty26 rfl (by repeat (first | with_reducible exact Sel.head | apply Sel.tail)) rfl) rfl rfl ?_
  refine V_q (q_len rfl Tryz.underlying26 rfl) rfl rfl ?_
  refine V_q (q_mov rfl rfl) rfl rfl ?_
  refine V_next (fun _ => rfl) ?_
  refine T_block ?_
  refine T_loop (fun i : Nat => [(0, .pointer (some ⟨g, 0, none⟩)), (4, .pointer (some ⟨g4, 0, none⟩)), (5, .pointer (some ⟨g5, 0, none⟩)), (11, .int .i64 (szOf s).toNat), (12, .int .i64 i)])
    (fun i => [rOwn 2 1 (.slice da (szOf s).toNat dc) (szOf s).toNat (rowAt L p (szOf s).toNat i), rBlk g5 28 [.slice a' n c', .slice da (szOf s).toNat dc], rBlk g4 28 [.slice none 0 0, .slice none 0 0], rBlk g 25 [.slice b m d, .int .i64 (nums L p i).2]])
    (fun _ => [aSl I s a' n c', aSl I L b m d]) (fun i => i ≤ (szOf s).toNat) (fun i => (szOf s).toNat - i) 0 (Nat.zero_le _) ⟨rfl, rfl, rfl, rfl, rfl, trivial⟩ (fun w h => ?_) ?_
  · have e : rowAt L p (szOf s).toNat 0 = List.replicate (szOf s).toNat (.int .i64 0) := by simp [rowAt, nums]
    show St C [rOwn _ 1 _ _ (rowAt L p (szOf s).toNat 0), _, _, rBlk g _ [_, .int .i64 p]] _ _
    rw [e]
    exact h.pick (by repeat (first | with_reducible exact Pick.nil | apply Pick.cons (by repeat (first | with_reducible exact Sel.head | apply Sel.tail)))) (by simp)
  intro i hi
  refine T_seq (T_reg rfl ?_)
  refine V_q (q_lt rfl rfl rfl) rfl rfl ?_
  refine V_next (fun _ => rfl) ?_
  refine T_seq ?_
  refine T_cond rfl (fun hb => ?_) (fun hb => ?_)
  rotate_left
  · have hi' : i = (szOf s).toNat := by
      have : ¬ (i : Int) < ((szOf s).toNat : Int) := by simpa using hb
      omega
    subst hi'
    refine T_exit_next (fun _ => rfl) ?_
    refine T_seq (T_reg rfl ?_)
    refine V_q (q_ldA rfl ty28 rfl (by repeat (first | with_reducible exact Sel.head | apply Sel.tail)) (by repeat (first | exact SubL.z | apply SubL.s | apply SubL.t))) rfl rfl ?_
    refine V_n (l_st rfl ty28 rfl rfl rfl rfl rfl (by repeat (first | with_reducible exact Put.head | apply Put.tail)) (by repeat (first | exact PutL.z | apply PutL.s | apply PutL.t))) rfl rfl ?_; rintro ⟨⟩ -
    refine V_next (fun _ => rfl) ?_
    refine T_ret fun w h => ?_
    have h1 := h.know (aEv I (nums L p (szOf s).toNat).1 (rowAt L p (szOf s).toNat (szOf s).toNat)) (by
      have e : rowAt L p (szOf s).toNat (szOf s).toNat = (nums L p (szOf s).toNat).1.map (.int .i64) := by simp [rowAt]
      rw [e]
      exact EvP.ints _ _ _ _)
    obtain ⟨a1, c1, hv, h2⟩ := h1.leave (k := 1) (v := .slice da (szOf s).toNat dc) (n := (szOf s).toNat) (cs := rowAt L p (szOf s).toNat (szOf s).toNat) I rfl (by decide) (by repeat (first | with_reducible exact Sel.head | apply Sel.tail)) In.head
    injection hv with e1 e2 e3
    subst e1; subst e3
    exact ⟨_, res_c rfl ty28 rfl (h2.res (by repeat (first | with_reducible exact Sel.head | apply Sel.tail))), ((a', c'), (da, dc)), trivial, rfl, h2.pick (by repeat (first | with_reducible exact Pick.nil | apply Pick.cons (by repeat (first | with_reducible exact Sel.head | apply Sel.tail)))) (by simp)⟩
  have hin : i < (szOf s).toNat := by
    have : (i : Int) < ((szOf s).toNat : Int) := by simpa using hb
    omega
  clear hb
  refine T_skip_next (fun _ => rfl) ?_
  refine T_seq ?_
  refine T_block ?_
  refine T_seq (T_reg rfl ?_)
  refine V_q (q_mov rfl rfl) rfl rfl ?_
  refine V_q (q_asg rfl rfl) rfl rfl ?_
  refine V_next (fun _ => rfl) ?_
  refine T_own (e := 2) (k := 1) (v := .slice da (szOf s).toNat dc) (n := (szOf s).toNat) (cs := rowAt L p (szOf s).toNat i) (by repeat (first | with_reducible exact Sel.head | apply Sel.tail)) (by omega) fun gd cd hv => ?_
  injection hv with e1 e2 e3
  subst e1; subst e3
  refine T_drawn hmix (.pure 0 <| .quiet 1 <| .pure 2 <| .pure 3 <| .loud 4 <| .quiet 5 <| .bar 6 <| .fin) (by decide +kernel) ?_
  refine W_p rfl (q_fa rfl fd28_1 rfl) rfl rfl ?_
  refine W_ld rfl rfl ty26 rfl (by repeat (first | with_reducible exact Sel.head | apply Sel.tail)) rfl rfl rfl ?_
  refine W_p rfl (q_mov rfl rfl) rfl rfl ?_
  refine W_p rfl (q_mov rfl rfl) rfl rfl ?_
  refine W_l rfl (l_call rfl ent76 rfl (c_Number L b m d g (nums L p i).2) (by repeat (first | with_reducible exact Pick.nil | apply Pick.cons (by repeat (first | with_reducible exact Sel.head | apply Sel.tail)))) (by repeat (first | with_reducible exact Ins.nil | refine Ins.cons (by repeat (first | with_reducible exact In.head | apply In.tail)) ?_)) (fun _ => (by repeat (first | with_reducible exact App.nil | apply App.cons))) (fun _ => (by repeat (first | with_reducible exact App.nil | apply App.cons)))) (fun _ _ h => by repeat (first | exact trivial | refine ⟨?_, h.weak (by repeat (first | exact List.Sublist.refl _ | exact List.nil_sublist _ | with_reducible apply List.Sublist.cons_cons | apply List.Sublist.cons)) (by simp +contextual)⟩)) rfl rfl ?_; rintro g19 -
  refine W_q rfl (q_iaO rfl Tryz.underlying26 ty2 rfl rfl (Int.natCast_nonneg i) (by omega)) rfl rfl ?_
  refine W_bn rfl (l_setO i rfl ty2 rfl rfl rfl rfl (by omega) hin (by repeat (first | with_reducible exact Put.head | apply Put.tail))) rfl rfl ?_; rintro ⟨⟩ -
  refine W_next (fun _ => rfl) ?_
  refine T_reg rfl ?_
  refine V_q (q_addI rfl rfl rfl (by omega)) rfl rfl ?_
  refine V_q (q_mov rfl rfl) rfl rfl ?_
  refine V_nil ?_
  intro w h
  refine ⟨i + 1, ⟨by omega, by omega⟩, ⟨rfl, rfl, rfl, rfl, rfl, trivial⟩, ?_⟩
  have e : (num L (nums L p i).2).2 = (nums L p (i + 1)).2 := rfl
  rw [rowAt_set L p _ i hin, e] at h
  exact h.pick (by repeat (first | with_reducible exact Pick.nil | apply Pick.cons (by repeat (first | with_reducible exact Sel.head | apply Sel.tail)))) (by simp)
end Go.Proofs.YtgbhegmhbeekpaaGreat
