/-
  Contracts: numbers, lists of numbers, tensors.
-/
import Derived.Test.YtgbhegmhbeekpaaGreatTy
namespace Go.Proofs.YtgbhegmhbeekpaaGreat
open Go
set_option maxRecDepth 100000

def within (n lo hi : Int) : Int :=
  if lo ≤ n ∧ n ≤ hi then n else
    lo + (if n.tmod (hi - lo + 1) < 0 then n.tmod (hi - lo + 1) + hi - lo + 1 else n.tmod (hi - lo + 1))

theorem neg_lt_tmod (a : Int) {b : Int} (h : 0 < b) : -b < a.tmod b := by
  have := Int.tmod_lt_of_pos (-a) h
  rw [Int.neg_tmod] at this
  omega

theorem within_bounds (n lo hi : Int) (h : lo ≤ hi) : lo ≤ within n lo hi ∧ within n lo hi ≤ hi := by
  unfold within
  split
  · assumption
  · have h1 := Int.tmod_lt_of_pos n (show 0 < hi - lo + 1 by omega)
    have h2 := neg_lt_tmod n (show 0 < hi - lo + 1 by omega)
    split <;> omega

theorem c_Within (n lo hi : Int) (h1 : -1152921504606846976 ≤ lo) (h2 : lo ≤ hi) (h3 : hi ≤ 1152921504606846976) : Con Tryz.prog 41 #[.int .i64 n, .int .i64 lo, .int .i64 hi] [] []
    (fun _ : Unit => True) (fun _ => .int .i64 (within n lo hi)) (fun _ => []) (fun _ => []) := by
  refine con_of (n := 33) Tryz.func41 rfl rfl rfl (by simp) ?_
  intro C hC
  refine T_seq (T_reg rfl ?_)
  refine V_q (q_asg rfl rfl) rfl rfl ?_
  refine V_next (fun _ => rfl) ?_
  refine T_cut (fun _ : Unit => [(0, .int .i64 n), (1, .int .i64 lo), (2, .int .i64 hi)]) (fun _ => []) (fun _ => []) (fun _ => ¬ (lo ≤ n ∧ n ≤ hi)) ?_ ?_
  · refine T_seq (T_reg rfl ?_)
    refine V_q (q_mov rfl rfl) rfl rfl ?_
    refine V_q (q_mov rfl rfl) rfl rfl ?_
    refine V_q (q_ge rfl rfl rfl) rfl rfl ?_
    by_cases hlo : lo ≤ n
    · rw [decide_eq_true hlo]
      refine V_q (q_mov rfl rfl) rfl rfl ?_
      refine V_want (q_mov rfl rfl) rfl rfl ?_
      refine V_want (q_mov rfl rfl) rfl rfl ?_
      refine V_want (q_le rfl rfl rfl) rfl rfl ?_
      refine V_q (q_pick rfl rfl rfl rfl) rfl rfl ?_
      refine V_next (fun _ => rfl) ?_
      refine T_cond rfl (fun hb => ?_) (fun hb => ?_)
      · refine T_seq (T_reg rfl ?_)
        refine V_q (q_mov rfl rfl) rfl rfl ?_
        refine V_q (q_asg rfl rfl) rfl rfl ?_
        refine V_next (fun _ => rfl) ?_
        have hhi : n ≤ hi := by simpa using hb
        exact T_ret fun w h => ⟨_, res_1 rfl, (), trivial, by simp [within, hlo, hhi], h⟩
      · have hhi : ¬ n ≤ hi := by simpa using hb
        exact T_skip fun w h => ⟨(), fun hc => hhi hc.2, ⟨rfl, rfl, rfl, trivial⟩, h⟩
    · rw [decide_eq_false hlo]
      refine V_q (q_mov rfl rfl) rfl rfl ?_
      refine V_skip rfl rfl ?_
      refine V_skip rfl rfl ?_
      refine V_skip rfl rfl ?_
      refine V_q (q_pick rfl rfl rfl rfl) rfl rfl ?_
      refine V_next (fun _ => rfl) ?_
      refine T_cond rfl (fun hb => ?_) (fun hb => ?_)
      · cases hb
      · exact T_skip fun w h => ⟨(), fun hc => hlo hc.1, ⟨rfl, rfl, rfl, trivial⟩, h⟩
  intro _ hn
  have h4 := Int.tmod_lt_of_pos n (show 0 < hi - lo + 1 by omega)
  have h5 := neg_lt_tmod n (show 0 < hi - lo + 1 by omega)
  refine T_seq (T_reg rfl ?_)
  refine V_q (q_mov rfl rfl) rfl rfl ?_
  refine V_q (q_mov rfl rfl) rfl rfl ?_
  refine V_q (q_mov rfl rfl) rfl rfl ?_
  refine V_q (q_subI rfl rfl rfl (by omega)) rfl rfl ?_
  refine V_q (q_addI rfl rfl rfl (by omega)) rfl rfl ?_
  refine V_q (q_rem rfl rfl rfl (by omega)) rfl rfl ?_
  refine V_q (q_asg rfl rfl) rfl rfl ?_
  refine V_next (fun _ => rfl) ?_
  refine T_cut (fun _ : Unit => [(0, .int .i64 (within n lo hi - lo)), (1, .int .i64 lo)]) (fun _ => []) (fun _ => []) (fun _ => True) ?_ ?_
  · refine T_seq (T_reg rfl ?_)
    refine V_q (q_mov rfl rfl) rfl rfl ?_
    refine V_q (q_lt rfl rfl rfl) rfl rfl ?_
    refine V_next (fun _ => rfl) ?_
    refine T_cond rfl (fun hb => ?_) (fun hb => ?_)
    · have hb' : n.tmod (hi - lo + 1) < 0 := by simpa using hb
      refine T_reg rfl ?_
      refine V_q (q_mov rfl rfl) rfl rfl ?_
      refine V_q (q_mov rfl rfl) rfl rfl ?_
      refine V_q (q_addI rfl rfl rfl (by omega)) rfl rfl ?_
      refine V_q (q_mov rfl rfl) rfl rfl ?_
      refine V_q (q_subI rfl rfl rfl (by omega)) rfl rfl ?_
      refine V_q (q_addI rfl rfl rfl (by omega)) rfl rfl ?_
      refine V_q (q_asg rfl rfl) rfl rfl ?_
      refine V_nil ?_
      intro w h
      have e : n.tmod (hi - lo + 1) + hi - lo + 1 = within n lo hi - lo := by unfold within; rw [if_neg hn, if_pos hb']; omega
      exact ⟨(), trivial, ⟨congrArg (fun z => some (Value.int .i64 z)) e, rfl, trivial⟩, h⟩
    · have hb' : ¬ n.tmod (hi - lo + 1) < 0 := by simpa using hb
      have e : n.tmod (hi - lo + 1) = within n lo hi - lo := by unfold within; rw [if_neg hn, if_neg hb']; omega
      exact T_skip fun w h => ⟨(), trivial, ⟨congrArg (fun z => some (Value.int .i64 z)) e, rfl, trivial⟩, h⟩
  rintro _ -
  have h6 := within_bounds n lo hi h2
  refine T_seq (T_reg rfl ?_)
  refine V_q (q_mov rfl rfl) rfl rfl ?_
  refine V_q (q_mov rfl rfl) rfl rfl ?_
  refine V_q (q_addI rfl rfl rfl (by omega)) rfl rfl ?_
  refine V_q (q_asg rfl rfl) rfl rfl ?_
  refine V_next (fun _ => rfl) ?_
  exact T_ret fun w h => ⟨_, res_1 rfl, (), trivial, by congr 2; omega, h⟩

theorem c_Ints (xs ys : List Int) (a b : Option Addr) (n m c d : Nat) : Con Tryz.prog 64 #[.slice a n c, .slice b m d] [] [aSl (rInt .i64) xs a n c, aSl (rInt .i64) ys b m d]
    (fun _ : Unit => True) (fun _ => .bool (decide (xs = ys))) (fun _ => []) (fun _ => []) := by
  refine con_of (n := 26) Tryz.func64 rfl rfl rfl (by simp) ?_
  intro C hC
  refine T_pure (φ := n = xs.length ∧ n ≤ maxLen ∧ m = ys.length) (fun w h => ?_) (fun hlen => ?_)
  · have h1 : SlP _ _ _ _ _ _ _ := h.atom (A := aSl (rInt .i64) xs a n c) (by repeat (first | with_reducible exact In.head | apply In.tail))
    have h2 : SlP _ _ _ _ _ _ _ := h.atom (A := aSl (rInt .i64) ys b m d) (by repeat (first | with_reducible exact In.head | apply In.tail))
    exact ⟨h1.1, Nat.le_trans h1.2.1 h1.2.2.1, h2.1⟩
  obtain ⟨hn, hmax, hm⟩ := hlen
  unfold maxLen at hmax
  refine T_seq (T_reg rfl ?_) -- region 0 ref.go:69
  refine V_q (q_asg rfl rfl) rfl rfl ?_ -- t4 := (.bool false)
  refine V_next (fun _ => rfl) ?_
  refine T_seq ?_
  refine T_seq (T_reg rfl ?_) -- region 1 ref.go:70
  refine V_q (q_mov rfl rfl) rfl rfl ?_ -- t6 := t0
  refine V_q (q_len rfl Tryz.underlying22 rfl) rfl rfl ?_ -- t7 := t6
  refine V_q (q_mov rfl rfl) rfl rfl ?_ -- t8 := t1
  refine V_q (q_len rfl Tryz.underlying22 rfl) rfl rfl ?_ -- t9 := t8
  refine V_q (q_ne rfl rfl rfl) rfl rfl ?_ -- t10 := t7 neq t9
  refine V_next (fun _ => rfl) ?_
  refine T_cond rfl (fun hb => ?_) (fun hb => ?_) -- if t10
  · -- then
    refine T_seq (T_reg rfl ?_) -- region 2 ref.go:71
    refine V_q (q_asg rfl rfl) rfl rfl ?_ -- t4 := (.bool false)
    refine V_next (fun _ => rfl) ?_
    refine T_ret fun w h => ⟨_, res_1 rfl, (), trivial, ?_, h.weak (List.nil_sublist _) (by simp)⟩
    have : xs ≠ ys := by rintro rfl; simp at hb; omega
    simp [this]
  have hnm : n = m := by simp at hb; omega
  subst hnm
  clear hb
  refine T_skip_next (fun _ => rfl) ?_
  refine T_seq ?_
  refine T_seq (T_reg rfl ?_) -- region 3 ref.go:73
  refine V_q (q_asg rfl rfl) rfl rfl ?_ -- t5 := (.int .i64 0)
  refine V_next (fun _ => rfl) ?_
  refine T_block ?_ -- 0
  refine T_loop (fun k : Nat => [(0, .slice a n c), (1, .slice b n d), (5, .int .i64 k)]) (fun _ => []) (fun _ => [aSl (rInt .i64) xs a n c, aSl (rInt .i64) ys b n d]) (fun k => k ≤ n ∧ xs.take k = ys.take k) (fun k => n - k) 0 ⟨by omega, by simp⟩ ⟨rfl, rfl, rfl, trivial⟩ (fun w h => h) ?_
  rintro k ⟨hk, hkk⟩
  refine T_seq ?_
  refine T_seq (T_reg rfl ?_) -- region 4 ref.go:73
  refine V_q (q_mov rfl rfl) rfl rfl ?_ -- t11 := t5
  refine V_q (q_mov rfl rfl) rfl rfl ?_ -- t12 := t0
  refine V_q (q_len rfl Tryz.underlying22 rfl) rfl rfl ?_ -- t13 := t12
  refine V_q (q_lt rfl rfl rfl) rfl rfl ?_ -- t14 := t11 lss t13
  refine V_next (fun _ => rfl) ?_
  refine T_cond rfl (fun hb => ?_) (fun hb => ?_) -- if t14
  rotate_left
  · -- else
    have hkn : k = n := by simp at hb; omega
    have hxy : xs = ys := by rw [hkn] at hkk; rwa [List.take_of_length_le (by omega), List.take_of_length_le (by omega)] at hkk
    refine T_exit_next (fun _ => rfl) ?_ -- 0
    refine T_seq (T_reg rfl ?_) -- region 8 ref.go:78
    refine V_q (q_asg rfl rfl) rfl rfl ?_ -- t4 := (.bool true)
    refine V_next (fun _ => rfl) ?_
    exact T_ret fun w h => ⟨_, res_1 rfl, (), trivial, by simp [hxy], h.weak (List.nil_sublist _) (by simp)⟩
  have hkn : k < n := by simp at hb; omega
  clear hb
  refine T_skip_next (fun _ => rfl) ?_
  refine T_seq ?_ -- block
  refine T_block ?_ -- 1
  refine T_seq (T_drawn hmix (.pure 0 <| .pure 1 <| .quiet 2 <| .quiet 3 <| .pure 4 <| .pure 5 <| .quiet 6 <| .quiet 7 <| .pure 8 <| .fin) (by decide +kernel) ?_) -- region 6 ref.go:74 DRAWN
  refine W_p rfl (q_mov rfl rfl) rfl rfl ?_ -- t17 := t0
  refine W_p rfl (q_mov rfl rfl) rfl rfl ?_ -- t18 := t5
  refine W_q rfl (q_iaN rfl Tryz.underlying22 ty3 rfl rfl hkn (by repeat (first | with_reducible exact In.head | apply In.tail))) rfl rfl ?_ -- t19 := t17[t18]
  refine W_q rfl (q_ldN rfl ty3 rfl (by repeat (first | with_reducible exact In.head | apply In.tail)) hkn) rfl rfl ?_ -- t20 := t19
  refine W_p rfl (q_mov rfl rfl) rfl rfl ?_ -- t21 := t1
  refine W_p rfl (q_mov rfl rfl) rfl rfl ?_ -- t22 := t5
  refine W_q rfl (q_iaN rfl Tryz.underlying22 ty3 rfl rfl hkn (by repeat (first | with_reducible exact In.head | apply In.tail))) rfl rfl ?_ -- t23 := t21[t22]
  refine W_q rfl (q_ldN rfl ty3 rfl (by repeat (first | with_reducible exact In.head | apply In.tail)) hkn) rfl rfl ?_ -- t24 := t23
  refine W_p rfl (q_ne rfl rfl rfl) rfl rfl ?_ -- t25 := t20 neq t24
  refine W_next (fun _ => rfl) ?_
  have hxk : xs.getD k 0 = xs[k]'(by omega) := by simp [List.getD_eq_getElem?_getD, List.getElem?_eq_getElem (show k < xs.length by omega)]
  have hyk : ys.getD k 0 = ys[k]'(by omega) := by simp [List.getD_eq_getElem?_getD, List.getElem?_eq_getElem (show k < ys.length by omega)]
  rw [hxk, hyk]
  refine T_cond rfl (fun hb => ?_) (fun hb => ?_) -- if t25
  · -- then
    refine T_seq (T_reg rfl ?_) -- region 7 ref.go:75
    refine V_q (q_asg rfl rfl) rfl rfl ?_ -- t4 := (.bool false)
    refine V_next (fun _ => rfl) ?_
    refine T_ret fun w h => ⟨_, res_1 rfl, (), trivial, ?_, h.weak (List.nil_sublist _) (by simp)⟩
    have : xs ≠ ys := by rintro rfl; simp at hb
    simp [this]
  have hxy : xs[k]'(by omega) = ys[k]'(by omega) := by simpa using hb
  refine T_skip_next (fun _ => rfl) ?_
  refine T_reg rfl ?_ -- region 5 ref.go:73
  refine V_q (q_mov rfl rfl) rfl rfl ?_ -- t15 := t5
  refine V_q (q_addI rfl rfl rfl (by omega)) rfl rfl ?_ -- t16 := t15 add (.int .i64 1)
  refine V_q (q_asg rfl rfl) rfl rfl ?_ -- t5 := t16
  refine V_nil fun w h => ⟨k + 1, ⟨by omega, by omega, ?_⟩, ⟨rfl, rfl, rfl, trivial⟩, h⟩
  rw [List.take_succ_eq_append_getElem (by omega), List.take_succ_eq_append_getElem (by omega), hkk, hxy]

theorem c_CloneI (xs : List Int) (a : Option Addr) (n c : Nat) (hb : n * 8 ≤ 140737488355328) : Con Tryz.prog 90 #[.slice a n c] [] [aSl (rInt .i64) xs a n c]
    (fun _ : Option Addr × Nat => True) (fun y => .slice y.1 n y.2) (fun _ => []) (fun y => [aSl (rInt .i64) xs y.1 n y.2]) := by
  refine con_of (n := 8) Tryz.func90 rfl rfl rfl (by simp) ?_
  intro C hC
  refine T_seq (T_reg rfl ?_)
  refine V_q (q_asg rfl rfl) rfl rfl ?_
  refine V_next (fun _ => rfl) ?_
  refine T_seq ?_
  refine T_seq (T_reg rfl ?_)
  refine V_q (q_mov rfl rfl) rfl rfl ?_
  refine V_q (q_eqlnil rfl Tryz.underlying22 rfl rfl) rfl rfl ?_
  refine V_next (fun _ => rfl) ?_
  refine T_cond rfl (fun hb => ?_) (fun hb => ?_)
  · have ha : a = none := by simpa using hb
    subst ha
    refine T_pure (φ := n = 0 ∧ c = 0 ∧ xs = []) (fun w h => ?_) (fun h0 => ?_)
    · have h1 : SlP _ _ _ _ _ _ _ := h.atom (A := aSl (rInt .i64) xs none n c) (by repeat (first | with_reducible exact In.head | apply In.tail))
      have e1 := h1.2.2.2.1 rfl
      have e2 := h1.2.1
      exact ⟨by omega, e1, List.eq_nil_of_length_eq_zero (by have := h1.1; omega)⟩
    obtain ⟨rfl, rfl, rfl⟩ := h0
    refine T_seq (T_reg rfl ?_)
    refine V_q (q_asg rfl rfl) rfl rfl ?_
    refine V_next (fun _ => rfl) ?_
    exact T_ret fun w h => ⟨_, res_1 rfl, (none, 0), trivial, rfl, h.weak (List.Sublist.refl _) (by simp)⟩
  refine T_skip_next (fun _ => rfl) ?_
  refine T_seq (T_reg rfl ?_)
  refine V_l (l_bs [] rfl Tryz.underlying22 ty3 tz3 (by decide) rfl rfl rfl (by repeat (first | exact FillL.nil | apply FillL.cons rfl rfl (by repeat (first | exact PutL.z | apply PutL.s | apply PutL.t))))) rfl rfl ?_; rintro g5 -
  refine V_q (q_mov rfl rfl) rfl rfl ?_
  refine V_ghost (fun w h => h.row (g := g5) (n := 0) (k := 1) Put.head rfl (by simp [maxLen])) ?_
  refine V_l (l_appS (rInt .i64) rfl Tryz.underlying22 ty3 tz3 tb3 rfl rfl (by decide) rfl rfl (by repeat (first | with_reducible exact In.head | apply In.tail)) (fun _ _ => (by repeat (first | with_reducible exact Put.head | apply Put.tail))) (by simp [maxLen]; omega) (by simp; omega)) rfl rfl ?_; rintro ⟨news, v⟩ -
  refine V_q (q_asg rfl rfl) rfl rfl ?_
  refine V_next (fun _ => rfl) ?_
  refine T_ret fun w h => ?_
  obtain ⟨a', c', rfl, h2⟩ := h.leave (k := 1) (v := v) (n := 0 + n) (cs := [] ++ news) (rInt .i64) rfl (by decide) Sel.head In.head
  rw [Nat.zero_add] at h2
  exact ⟨_, res_1 rfl, (a', c'), trivial, by simp, h2.weak (List.Sublist.refl _) (by simp)⟩

theorem c_CloneL (xs : List Int) (a : Option Addr) (n c : Nat) (hb : n * 8 ≤ 140737488355328) : Con Tryz.prog 91 #[.slice a n c] [] [aSl (rInt .i64) xs a n c]
    (fun _ : Option Addr × Nat => True) (fun y => .slice y.1 n y.2) (fun _ => []) (fun y => [aSl (rInt .i64) xs y.1 n y.2]) := by
  refine con_of (n := 8) Tryz.func91 rfl rfl rfl (by simp) ?_
  intro C hC
  refine T_seq (T_reg rfl ?_)
  refine V_q (q_asg rfl rfl) rfl rfl ?_
  refine V_next (fun _ => rfl) ?_
  refine T_seq ?_
  refine T_seq (T_reg rfl ?_)
  refine V_q (q_mov rfl rfl) rfl rfl ?_
  refine V_q (q_eqlnil rfl Tryz.underlying26 rfl rfl) rfl rfl ?_
  refine V_next (fun _ => rfl) ?_
  refine T_cond rfl (fun hb => ?_) (fun hb => ?_)
  · have ha : a = none := by simpa using hb
    subst ha
    refine T_pure (φ := n = 0 ∧ c = 0 ∧ xs = []) (fun w h => ?_) (fun h0 => ?_)
    · have h1 : SlP _ _ _ _ _ _ _ := h.atom (A := aSl (rInt .i64) xs none n c) (by repeat (first | with_reducible exact In.head | apply In.tail))
      have e1 := h1.2.2.2.1 rfl
      have e2 := h1.2.1
      exact ⟨by omega, e1, List.eq_nil_of_length_eq_zero (by have := h1.1; omega)⟩
    obtain ⟨rfl, rfl, rfl⟩ := h0
    refine T_seq (T_reg rfl ?_)
    refine V_q (q_asg rfl rfl) rfl rfl ?_
    refine V_next (fun _ => rfl) ?_
    exact T_ret fun w h => ⟨_, res_1 rfl, (none, 0), trivial, rfl, h.weak (List.Sublist.refl _) (by simp)⟩
  refine T_skip_next (fun _ => rfl) ?_
  refine T_seq (T_reg rfl ?_)
  refine V_l (l_bs [] rfl Tryz.underlying26 ty2 tz2 (by decide) rfl rfl rfl (by repeat (first | exact FillL.nil | apply FillL.cons rfl rfl (by repeat (first | exact PutL.z | apply PutL.s | apply PutL.t))))) rfl rfl ?_; rintro g5 -
  refine V_q (q_mov rfl rfl) rfl rfl ?_
  refine V_ghost (fun w h => h.row (g := g5) (n := 0) (k := 1) Put.head rfl (by simp [maxLen])) ?_
  refine V_l (l_appS (rInt .i64) rfl Tryz.underlying26 ty2 tz2 tb2 rfl rfl (by decide) rfl rfl (by repeat (first | with_reducible exact In.head | apply In.tail)) (fun _ _ => (by repeat (first | with_reducible exact Put.head | apply Put.tail))) (by simp [maxLen]; omega) (by simp; omega)) rfl rfl ?_; rintro ⟨news, v⟩ -
  refine V_q (q_asg rfl rfl) rfl rfl ?_
  refine V_next (fun _ => rfl) ?_
  refine T_ret fun w h => ?_
  obtain ⟨a', c', rfl, h2⟩ := h.leave (k := 1) (v := v) (n := 0 + n) (cs := [] ++ news) (rInt .i64) rfl (by decide) Sel.head In.head
  rw [Nat.zero_add] at h2
  exact ⟨_, res_1 rfl, (a', c'), trivial, by simp, h2.weak (List.Sublist.refl _) (by simp)⟩
end Go.Proofs.YtgbhegmhbeekpaaGreat
