/-
  The references' own words on shapes.
-/
import Derived.Test.YtgbhegmhbeekpaaGreatZ1
namespace Go.Proofs.YtgbhegmhbeekpaaGreat
open Go
set_option maxRecDepth 100000

theorem c_refRight (s : List Int) (a : Option Addr) (n c : Nat) : Con Tryz.prog 110 #[.slice a n c] [] [aSl I s a n c]
    (fun _ : Unit => True) (fun _ => .bool (shOk s)) (fun _ => []) (fun _ => []) := by
  refine con_of (n := 35) Tryz.func110 rfl rfl rfl (by simp) ?_
  intro C hC
  refine T_pure (φ := n = s.length ∧ n ≤ maxLen) (fun w h => ⟨(sl_len h (xs := s) (a := a) (by repeat (first | with_reducible exact In.head | apply In.tail))).1, Nat.le_trans (sl_len h (xs := s) (a := a) (by repeat (first | with_reducible exact In.head | apply In.tail))).2.1 (sl_len h (xs := s) (a := a) (by repeat (first | with_reducible exact In.head | apply In.tail))).2.2⟩) (fun hlen => ?_)
  obtain ⟨hm, hmax⟩ := hlen
  unfold maxLen at hmax
  refine T_seq (T_reg rfl ?_)
  refine V_q (q_asg rfl rfl) rfl rfl ?_
  refine V_next (fun _ => rfl) ?_
  refine T_seq (T_reg rfl ?_)
  refine V_q (q_asg rfl rfl) rfl rfl ?_
  refine V_next (fun _ => rfl) ?_
  refine T_seq ?_
  refine T_seq (T_reg rfl ?_)
  refine V_q (q_asg rfl rfl) rfl rfl ?_
  refine V_next (fun _ => rfl) ?_
  refine T_block ?_
  refine T_loop (fun i : Nat => [(0, .slice a n c), (3, .int .i64 (prodI (s.take i))), (4, .int .i64 i)]) (fun _ => []) (fun _ => [aSl I s a n c])
    (fun i => i ≤ n ∧ i ≤ 4 ∧ ∀ j (hj : j < s.length), j < i → 0 ≤ s[j] ∧ s[j] ≤ 32) (fun i => n - i) 0 ⟨by omega, by omega, by intro j hj h; omega⟩ ⟨rfl, rfl, rfl, trivial⟩ (fun w h => h) ?_
  rintro i ⟨hi, hi4, hd⟩
  have hpb := prod_bounds i s (by omega) hd
  have hp4 := pow4 (i := i) (by omega)
  refine T_seq ?_
  refine T_seq (T_reg rfl ?_)
  refine V_q (q_mov rfl rfl) rfl rfl ?_
  refine V_q (q_mov rfl rfl) rfl rfl ?_
  refine V_q (q_len rfl Tryz.underlying22 rfl) rfl rfl ?_
  refine V_q (q_lt rfl rfl rfl) rfl rfl ?_
  refine V_next (fun _ => rfl) ?_
  refine T_cond rfl (fun hb => ?_) (fun hb => ?_)
  rotate_left
  · have hin : i = s.length := by
      have : ¬ (i : Int) < n := by simpa using hb
      omega
    have hdm : dims s = true := by
      refine List.all_eq_true.2 fun k hk => ?_
      obtain ⟨j, hj, rfl⟩ := List.mem_iff_getElem.1 hk
      simpa using hd j hj (by omega)
    have ht : s.take i = s := List.take_of_length_le (by omega)
    refine T_exit_next (fun _ => rfl) ?_
    refine T_seq (T_reg rfl ?_)
    refine V_q (q_mov rfl rfl) rfl rfl ?_
    refine V_q (q_le rfl rfl rfl) rfl rfl ?_
    refine V_q (q_asg rfl rfl) rfl rfl ?_
    refine V_next (fun _ => rfl) ?_
    exact T_ret fun w h => ⟨_, res_1 rfl, (), trivial, by rw [ht]; simp [shOk, hdm]; omega, h.weak (List.nil_sublist _) (by simp)⟩
  have hin : i < n := by
    have : (i : Int) < n := by simpa using hb
    omega
  clear hb
  refine T_skip_next (fun _ => rfl) ?_
  refine T_seq ?_
  refine T_block ?_
  have hx : s.getD i 0 = s[i]'(by omega) := by simp [List.getD_eq_getElem?_getD, List.getElem?_eq_getElem (show i < s.length by omega)]
  have hbad : ¬ (0 ≤ s[i]'(by omega) ∧ s[i]'(by omega) ≤ 32) → shOk s = false := fun h => by
    have : dims s = false := by
      cases hds : dims s with
      | false => rfl
      | true => exact absurd (dims_get hds (by omega)) h
    simp [shOk, this]
  refine T_seq ?_
  refine T_seq (T_reg rfl ?_)
  refine V_q (q_mov rfl rfl) rfl rfl ?_
  refine V_q (q_mov rfl rfl) rfl rfl ?_
  refine V_q (q_iaN rfl Tryz.underlying22 ty3 rfl rfl (by omega) (by repeat (first | with_reducible exact In.head | apply In.tail))) rfl rfl ?_
  refine V_q (q_ldN rfl ty3 rfl (by repeat (first | with_reducible exact In.head | apply In.tail)) (by omega)) rfl rfl ?_
  refine V_q (q_lt rfl rfl rfl) rfl rfl ?_
  refine V_q (q_mov rfl rfl) rfl rfl ?_
  rw [hx]
  by_cases h0 : s[i]'(by omega) < 0
  · rw [decide_eq_true h0]
    refine V_skip rfl rfl ?_
    refine V_skip rfl rfl ?_
    refine V_skip rfl rfl ?_
    refine V_skip rfl rfl ?_
    refine V_skip rfl rfl ?_
    refine V_q (q_pick rfl rfl rfl rfl) rfl rfl ?_
    refine V_q (q_mov rfl rfl) rfl rfl ?_
    refine V_skip rfl rfl ?_
    refine V_skip rfl rfl ?_
    refine V_q (q_pick rfl rfl rfl rfl) rfl rfl ?_
    refine V_next (fun _ => rfl) ?_
    refine T_cond rfl (fun hb => ?_) (fun hb => ?_)
    · refine T_seq (T_reg rfl ?_)
      refine V_q (q_asg rfl rfl) rfl rfl ?_
      refine V_next (fun _ => rfl) ?_
      exact T_ret fun w h => ⟨_, res_1 rfl, (), trivial, by rw [hbad (by omega)], h.weak (List.nil_sublist _) (by simp)⟩
    · cases hb
  rw [decide_eq_false h0]
  refine V_want (q_mov rfl rfl) rfl rfl ?_
  refine V_want (q_mov rfl rfl) rfl rfl ?_
  refine V_want (q_iaN rfl Tryz.underlying22 ty3 rfl rfl (by omega) (by repeat (first | with_reducible exact In.head | apply In.tail))) rfl rfl ?_
  refine V_want (q_ldN rfl ty3 rfl (by repeat (first | with_reducible exact In.head | apply In.tail)) (by omega)) rfl rfl ?_
  refine V_want (q_gt rfl rfl rfl) rfl rfl ?_
  refine V_q (q_pick rfl rfl rfl rfl) rfl rfl ?_
  refine V_q (q_mov rfl rfl) rfl rfl ?_
  rw [hx]
  by_cases h32 : (32 : Int) < s[i]'(by omega)
  · rw [decide_eq_true h32]
    refine V_skip rfl rfl ?_
    refine V_skip rfl rfl ?_
    refine V_q (q_pick rfl rfl rfl rfl) rfl rfl ?_
    refine V_next (fun _ => rfl) ?_
    refine T_cond rfl (fun hb => ?_) (fun hb => ?_)
    · refine T_seq (T_reg rfl ?_)
      refine V_q (q_asg rfl rfl) rfl rfl ?_
      refine V_next (fun _ => rfl) ?_
      exact T_ret fun w h => ⟨_, res_1 rfl, (), trivial, by rw [hbad (by omega)], h.weak (List.nil_sublist _) (by simp)⟩
    · cases hb
  rw [decide_eq_false h32]
  refine V_want (q_mov rfl rfl) rfl rfl ?_
  refine V_want (q_ge rfl rfl rfl) rfl rfl ?_
  refine V_q (q_pick rfl rfl rfl rfl) rfl rfl ?_
  refine V_next (fun _ => rfl) ?_
  refine T_cond rfl (fun hb => ?_) (fun hb => ?_)
  · refine T_seq (T_reg rfl ?_)
    refine V_q (q_asg rfl rfl) rfl rfl ?_
    refine V_next (fun _ => rfl) ?_
    have h4 : (4 : Int) ≤ i := by simpa using hb
    have hl : ¬ s.length ≤ 4 := by omega
    exact T_ret fun w h => ⟨_, res_1 rfl, (), trivial, by simp [shOk, hl], h.weak (List.nil_sublist _) (by simp)⟩
  have h4 : ¬ (4 : Int) ≤ i := by simpa using hb
  refine T_skip_next (fun _ => rfl) ?_
  have hms := mul_small hpb.1 (by omega) (show 0 ≤ s[i]'(by omega) by omega) (by omega)
  refine T_reg rfl ?_
  refine V_q (q_mov rfl rfl) rfl rfl ?_
  refine V_q (q_mov rfl rfl) rfl rfl ?_
  refine V_q (q_mov rfl rfl) rfl rfl ?_
  refine V_q (q_iaN rfl Tryz.underlying22 ty3 rfl rfl (by omega) (by repeat (first | with_reducible exact In.head | apply In.tail))) rfl rfl ?_
  refine V_q (q_ldN rfl ty3 rfl (by repeat (first | with_reducible exact In.head | apply In.tail)) (by omega)) rfl rfl ?_
  rw [hx]
  refine V_q (q_mulI rfl rfl rfl (by omega)) rfl rfl ?_
  refine V_q (q_asg rfl rfl) rfl rfl ?_
  refine V_next (fun _ => rfl) ?_
  refine T_reg rfl ?_
  refine V_q (q_mov rfl rfl) rfl rfl ?_
  refine V_q (q_addI rfl rfl rfl (by omega)) rfl rfl ?_
  refine V_q (q_asg rfl rfl) rfl rfl ?_
  refine V_nil ?_
  intro w h
  refine ⟨i + 1, ⟨by omega, by omega, by omega, fun j hj hji => ?_⟩, ⟨rfl, ?_, rfl, trivial⟩, h⟩
  · by_cases e : j = i
    · subst e; exact ⟨by omega, by omega⟩
    · exact hd j hj (by omega)
  · rw [prodI_take (by omega)]; rfl

theorem c_refSize (s : List Int) (a : Option Addr) (n c : Nat) : Con Tryz.prog 77 #[.slice a n c] [] [aSl I s a n c]
    (fun _ : Unit => True) (fun _ => .int .i64 (szOf s)) (fun _ => []) (fun _ => []) := by
  refine con_of (n := 21) Tryz.func77 rfl rfl rfl (by simp) ?_
  intro C hC
  refine T_pure (φ := n = s.length ∧ n ≤ maxLen) (fun w h => ⟨(sl_len h (xs := s) (a := a) (by repeat (first | with_reducible exact In.head | apply In.tail))).1, Nat.le_trans (sl_len h (xs := s) (a := a) (by repeat (first | with_reducible exact In.head | apply In.tail))).2.1 (sl_len h (xs := s) (a := a) (by repeat (first | with_reducible exact In.head | apply In.tail))).2.2⟩) (fun hlen => ?_)
  obtain ⟨hm, hmax⟩ := hlen
  unfold maxLen at hmax
  refine T_seq (T_reg rfl ?_)
  refine V_q (q_asg rfl rfl) rfl rfl ?_
  refine V_next (fun _ => rfl) ?_
  refine T_seq ?_
  refine T_seq (T_reg rfl ?_)
  refine V_q (q_mov rfl rfl) rfl rfl ?_
  refine V_l (l_call rfl ent110 rfl (c_refRight s a n c) (by repeat (first | with_reducible exact Pick.nil | apply Pick.cons (by repeat (first | with_reducible exact Sel.head | apply Sel.tail)))) (by repeat (first | with_reducible exact Ins.nil | refine Ins.cons (by repeat (first | with_reducible exact In.head | apply In.tail)) ?_)) (fun _ => (by repeat (first | with_reducible exact App.nil | apply App.cons))) (fun _ => (by repeat (first | with_reducible exact App.nil | apply App.cons)))) rfl rfl ?_; rintro g6 -
  refine V_q (q_not rfl rfl) rfl rfl ?_
  refine V_next (fun _ => rfl) ?_
  refine T_cond rfl (fun hb => ?_) (fun hb => ?_)
  · refine T_seq (T_reg rfl ?_)
    refine V_q (q_asg rfl rfl) rfl rfl ?_
    refine V_next (fun _ => rfl) ?_
    have hb' : shOk s = false := by simpa using hb
    exact T_ret fun w h => ⟨_, res_1 rfl, (), trivial, by simp [szOf, hb'], h.weak (List.nil_sublist _) (by simp)⟩
  have hok : shOk s = true := by simpa using hb
  obtain ⟨h4, hdm, _⟩ := (shOk_iff s).1 hok
  clear hb
  refine T_skip_next (fun _ => rfl) ?_
  refine T_seq (T_reg rfl ?_)
  refine V_q (q_asg rfl rfl) rfl rfl ?_
  refine V_next (fun _ => rfl) ?_
  refine T_seq ?_
  refine T_seq (T_reg rfl ?_)
  refine V_q (q_asg rfl rfl) rfl rfl ?_
  refine V_next (fun _ => rfl) ?_
  refine T_block ?_
  refine T_loop (fun i : Nat => [(0, .slice a n c), (3, .int .i64 (prodI (s.take i))), (4, .int .i64 i)]) (fun _ => []) (fun _ => [aSl I s a n c])
    (fun i => i ≤ n) (fun i => n - i) 0 (by omega) ⟨rfl, rfl, rfl, trivial⟩ (fun w h => h) ?_
  intro i hi
  have hpb := prod_bounds i s (by omega) fun j hj _ => dims_get hdm hj
  have hp4 := pow4 (i := i) (by omega)
  refine T_seq ?_
  refine T_seq (T_reg rfl ?_)
  refine V_q (q_mov rfl rfl) rfl rfl ?_
  refine V_q (q_mov rfl rfl) rfl rfl ?_
  refine V_q (q_len rfl Tryz.underlying22 rfl) rfl rfl ?_
  refine V_q (q_lt rfl rfl rfl) rfl rfl ?_
  refine V_next (fun _ => rfl) ?_
  refine T_cond rfl (fun hb => ?_) (fun hb => ?_)
  rotate_left
  · have ht : s.take i = s := List.take_of_length_le (by
      have : ¬ (i : Int) < n := by simpa using hb
      omega)
    refine T_exit_next (fun _ => rfl) ?_
    refine T_seq (T_reg rfl ?_)
    refine V_q (q_mov rfl rfl) rfl rfl ?_
    refine V_q (q_asg rfl rfl) rfl rfl ?_
    refine V_next (fun _ => rfl) ?_
    exact T_ret fun w h => ⟨_, res_1 rfl, (), trivial, by rw [ht]; simp [szOf, hok], h.weak (List.nil_sublist _) (by simp)⟩
  have hin : i < n := by
    have : (i : Int) < n := by simpa using hb
    omega
  clear hb
  refine T_skip_next (fun _ => rfl) ?_
  refine T_seq ?_
  refine T_block ?_
  have hx : s.getD i 0 = s[i]'(by omega) := by simp [List.getD_eq_getElem?_getD, List.getElem?_eq_getElem (show i < s.length by omega)]
  have hdk := dims_get hdm (show i < s.length by omega)
  have hms := mul_small hpb.1 (by omega) hdk.1 hdk.2
  refine T_reg rfl ?_
  refine V_q (q_mov rfl rfl) rfl rfl ?_
  refine V_q (q_mov rfl rfl) rfl rfl ?_
  refine V_q (q_mov rfl rfl) rfl rfl ?_
  refine V_q (q_iaN rfl Tryz.underlying22 ty3 rfl rfl (by omega) (by repeat (first | with_reducible exact In.head | apply In.tail))) rfl rfl ?_
  refine V_q (q_ldN rfl ty3 rfl (by repeat (first | with_reducible exact In.head | apply In.tail)) (by omega)) rfl rfl ?_
  rw [hx]
  refine V_q (q_mulI rfl rfl rfl (by omega)) rfl rfl ?_
  refine V_q (q_asg rfl rfl) rfl rfl ?_
  refine V_next (fun _ => rfl) ?_
  refine T_reg rfl ?_
  refine V_q (q_mov rfl rfl) rfl rfl ?_
  refine V_q (q_addI rfl rfl rfl (by omega)) rfl rfl ?_
  refine V_q (q_asg rfl rfl) rfl rfl ?_
  refine V_nil ?_
  exact fun w h => ⟨i + 1, ⟨by omega, by omega⟩, ⟨rfl, by rw [prodI_take (by omega)]; rfl, rfl, trivial⟩, h⟩
end Go.Proofs.YtgbhegmhbeekpaaGreat
