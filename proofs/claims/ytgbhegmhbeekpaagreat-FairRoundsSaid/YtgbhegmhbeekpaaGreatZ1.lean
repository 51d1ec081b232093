/-
  Shapes and tensors that may be.
-/
import Derived.Test.YtgbhegmhbeekpaaGreatM1
namespace Go.Proofs.YtgbhegmhbeekpaaGreat
open Go
set_option maxRecDepth 100000

theorem Qu.eq {P : Program} {o : Oper} {l : LEnv} {S : World → Prop} {X Y : Value} (h : Qu P o l S X) (e : X = Y) : Qu P o l S Y := e ▸ h

def prodI (s : List Int) : Int := s.foldl (· * ·) 1
def dims (s : List Int) : Bool := s.all fun k => decide (0 ≤ k ∧ k ≤ 32)
/-- a shape that may be -/
def shOk (s : List Int) : Bool := decide (s.length ≤ 4) && dims s && decide (prodI s ≤ 4096)
def szOf (s : List Int) : Int := if shOk s then prodI s else 0

theorem prodI_snoc (s : List Int) (k : Int) : prodI (s ++ [k]) = prodI s * k := by simp [prodI]
theorem prodI_take {s : List Int} {i : Nat} (h : i < s.length) : prodI (s.take (i + 1)) = prodI (s.take i) * s[i] := by
  rw [List.take_succ_eq_append_getElem h, prodI_snoc]
theorem dims_get {s : List Int} (h : dims s = true) {i : Nat} (hi : i < s.length) : 0 ≤ s[i] ∧ s[i] ≤ 32 := by
  have := List.all_eq_true.1 h s[i] (List.getElem_mem hi)
  simpa using this
theorem prod_bounds : ∀ (i : Nat) (s : List Int), i ≤ s.length → (∀ j (hj : j < s.length), j < i → 0 ≤ s[j] ∧ s[j] ≤ 32) → 0 ≤ prodI (s.take i) ∧ prodI (s.take i) ≤ 32 ^ i
  | 0, s, _, _ => by simp [prodI]
  | i + 1, s, h, hd => by
    have ih := prod_bounds i s (by omega) fun j hj hji => hd j hj (by omega)
    have hk := hd i (by omega) (by omega)
    rw [prodI_take (by omega)]
    refine ⟨Int.mul_nonneg ih.1 hk.1, ?_⟩
    rw [Int.pow_succ]
    exact Int.mul_le_mul ih.2 hk.2 hk.1 (Int.pow_nonneg (by omega))
theorem pow4 {i : Nat} (h : i ≤ 4) : (32 : Int) ^ i ≤ 1048576 := by
  match i, h with
  | 0, _ => decide
  | 1, _ => decide
  | 2, _ => decide
  | 3, _ => decide
  | 4, _ => decide
theorem mul_small {n k : Int} (h1 : 0 ≤ n) (h2 : n ≤ 1048576) (h3 : 0 ≤ k) (h4 : k ≤ 32) : 0 ≤ n * k ∧ n * k ≤ 33554432 :=
  ⟨Int.mul_nonneg h1 h3, Int.le_trans (Int.mul_le_mul h2 h4 h3 (by omega)) (by omega)⟩

theorem c_shapeRight (s : List Int) (a : Option Addr) (n c : Nat) : Con Tryz.prog 88 #[.slice a n c] [] [aSl I s a n c]
    (fun _ : Unit => True) (fun _ => .bool (shOk s)) (fun _ => []) (fun _ => []) := by
  refine con_of (n := 27) Tryz.func88 rfl rfl rfl (by simp) ?_
  intro C hC
  refine T_pure (φ := n = s.length ∧ n ≤ maxLen) (fun w h => ⟨(sl_len h (xs := s) (a := a) (by repeat (first | with_reducible exact In.head | apply In.tail))).1, Nat.le_trans (sl_len h (xs := s) (a := a) (by repeat (first | with_reducible exact In.head | apply In.tail))).2.1 (sl_len h (xs := s) (a := a) (by repeat (first | with_reducible exact In.head | apply In.tail))).2.2⟩) (fun hlen => ?_)
  obtain ⟨hm, hmax⟩ := hlen
  unfold maxLen at hmax
  refine T_seq (T_reg rfl ?_)
  refine V_q (q_asg rfl rfl) rfl rfl ?_
  refine V_next (fun _ => rfl) ?_
  refine T_seq ?_
  refine T_seq (T_reg rfl ?_)
  refine V_q (q_mov rfl rfl) rfl rfl ?_
  refine V_q (q_len rfl Tryz.underlying22 rfl) rfl rfl ?_
  refine V_q (q_gt rfl rfl rfl) rfl rfl ?_
  refine V_next (fun _ => rfl) ?_
  refine T_cond rfl (fun hb => ?_) (fun hb => ?_)
  · refine T_seq (T_reg rfl ?_)
    refine V_q (q_asg rfl rfl) rfl rfl ?_
    refine V_next (fun _ => rfl) ?_
    have h4 : ¬ s.length ≤ 4 := by have : (4 : Int) < n := by simpa using hb
                                   omega
    exact T_ret fun w h => ⟨_, res_1 rfl, (), trivial, by simp [shOk, h4], h.weak (List.nil_sublist _) (by simp)⟩
  have h4 : s.length ≤ 4 := by
    have : ¬ (4 : Int) < n := by simpa using hb
    omega
  clear hb
  refine T_skip_next (fun _ => rfl) ?_
  refine T_seq (T_reg rfl ?_)
  refine V_q (q_asg rfl rfl) rfl rfl ?_
  refine V_next (fun _ => rfl) ?_
  refine T_seq ?_
  refine T_seq (T_reg rfl ?_)
  refine V_q (q_mov rfl rfl) rfl rfl ?_
  refine V_q (q_len rfl Tryz.underlying22 rfl) rfl rfl ?_
  refine V_q (q_mov rfl rfl) rfl rfl ?_
  refine V_next (fun _ => rfl) ?_
  refine T_block ?_
  refine T_loop (fun i : Nat => [(3, .int .i64 (prodI (s.take i))), (9, .slice a n c), (10, .int .i64 n), (11, .int .i64 i)]) (fun _ => []) (fun _ => [aSl I s a n c])
    (fun i => i ≤ n ∧ ∀ j (hj : j < s.length), j < i → 0 ≤ s[j] ∧ s[j] ≤ 32) (fun i => n - i) 0 ⟨by omega, by intro j hj h; omega⟩ ⟨rfl, rfl, rfl, rfl, trivial⟩ (fun w h => h) ?_
  rintro i ⟨hi, hd⟩
  have hpb := prod_bounds i s (by omega) hd
  have hp4 := pow4 (i := i) (by omega)
  refine T_seq (T_reg rfl ?_)
  refine V_q (q_lt rfl rfl rfl) rfl rfl ?_
  refine V_next (fun _ => rfl) ?_
  refine T_seq ?_
  refine T_cond rfl (fun hb => ?_) (fun hb => ?_)
  rotate_left
  · have hin : i = s.length := by
      have : ¬ (i : Int) < n := by simpa using hb
      omega
    have hdm : dims s = true := by
      refine List.all_eq_true.2 fun k hk => ?_
      obtain ⟨j, hj, rfl⟩ := List.mem_iff_getElem.1 hk
      simpa using hd j hj (by omega)
    have ht : s.take i = s := List.take_of_length_le (by omega)
    refine T_exit_next (fun _ => rfl) ?_
    refine T_seq (T_reg rfl ?_)
    refine V_q (q_mov rfl rfl) rfl rfl ?_
    refine V_q (q_le rfl rfl rfl) rfl rfl ?_
    refine V_q (q_asg rfl rfl) rfl rfl ?_
    refine V_next (fun _ => rfl) ?_
    exact T_ret fun w h => ⟨_, res_1 rfl, (), trivial, by rw [ht]; simp [shOk, h4, hdm], h.weak (List.nil_sublist _) (by simp)⟩
  have hin : i < n := by
    have : (i : Int) < n := by simpa using hb
    omega
  clear hb
  refine T_skip_next (fun _ => rfl) ?_
  refine T_seq ?_
  refine T_block ?_
  refine T_seq (T_reg rfl ?_)
  refine V_q (q_iaN rfl Tryz.underlying22 ty3 rfl rfl (by omega) (by repeat (first | with_reducible exact In.head | apply In.tail))) rfl rfl ?_
  refine V_q (q_ldN rfl ty3 rfl (by repeat (first | with_reducible exact In.head | apply In.tail)) (by omega)) rfl rfl ?_
  refine V_q (q_asg rfl rfl) rfl rfl ?_
  refine V_next (fun _ => rfl) ?_
  have hx : s.getD i 0 = s[i]'(by omega) := by simp [List.getD_eq_getElem?_getD, List.getElem?_eq_getElem (show i < s.length by omega)]
  rw [hx]
  have hbad : ¬ (0 ≤ s[i]'(by omega) ∧ s[i]'(by omega) ≤ 32) → shOk s = false := fun h => by
    have : dims s = false := by
      cases hds : dims s with
      | false => rfl
      | true => exact absurd (dims_get hds (by omega)) h
    simp [shOk, this]
  refine T_seq ?_
  refine T_seq (T_reg rfl ?_)
  refine V_q (q_mov rfl rfl) rfl rfl ?_
  refine V_q (q_lt rfl rfl rfl) rfl rfl ?_
  refine V_q (q_mov rfl rfl) rfl rfl ?_
  by_cases h0 : s[i]'(by omega) < 0
  · rw [decide_eq_true h0]
    refine V_skip rfl rfl ?_
    refine V_skip rfl rfl ?_
    refine V_q (q_pick rfl rfl rfl rfl) rfl rfl ?_
    refine V_next (fun _ => rfl) ?_
    refine T_cond rfl (fun hb => ?_) (fun hb => ?_)
    · refine T_seq (T_reg rfl ?_)
      refine V_q (q_asg rfl rfl) rfl rfl ?_
      refine V_next (fun _ => rfl) ?_
      exact T_ret fun w h => ⟨_, res_1 rfl, (), trivial, by rw [hbad (by omega)], h.weak (List.nil_sublist _) (by simp)⟩
    · cases hb
  rw [decide_eq_false h0]
  refine V_want (q_mov rfl rfl) rfl rfl ?_
  refine V_want (q_gt rfl rfl rfl) rfl rfl ?_
  refine V_q (q_pick rfl rfl rfl rfl) rfl rfl ?_
  refine V_next (fun _ => rfl) ?_
  refine T_cond rfl (fun hb => ?_) (fun hb => ?_)
  · refine T_seq (T_reg rfl ?_)
    refine V_q (q_asg rfl rfl) rfl rfl ?_
    refine V_next (fun _ => rfl) ?_
    have h32 : (32 : Int) < s[i]'(by omega) := by simpa using hb
    exact T_ret fun w h => ⟨_, res_1 rfl, (), trivial, by rw [hbad (by omega)], h.weak (List.nil_sublist _) (by simp)⟩
  have h32 : ¬ (32 : Int) < s[i]'(by omega) := by simpa using hb
  refine T_skip_next (fun _ => rfl) ?_
  have hms := mul_small hpb.1 (by omega) (show 0 ≤ s[i]'(by omega) by omega) (by omega)
  refine T_reg rfl ?_
  refine V_q (q_mov rfl rfl) rfl rfl ?_
  refine V_q (q_mov rfl rfl) rfl rfl ?_
  refine V_q (q_mulI rfl rfl rfl (by omega)) rfl rfl ?_
  refine V_q (q_asg rfl rfl) rfl rfl ?_
  refine V_next (fun _ => rfl) ?_
  refine T_reg rfl ?_
  refine V_q (q_addI rfl rfl rfl (by omega)) rfl rfl ?_
  refine V_q (q_mov rfl rfl) rfl rfl ?_
  refine V_nil ?_
  intro w h
  refine ⟨i + 1, ⟨by omega, by omega, fun j hj hji => ?_⟩, ⟨?_, rfl, rfl, rfl, trivial⟩, h⟩
  · by_cases e : j = i
    · subst e; exact ⟨by omega, by omega⟩
    · exact hd j hj (by omega)
  · rw [prodI_take (by omega)]; rfl

theorem shOk_iff (s : List Int) : shOk s = true ↔ s.length ≤ 4 ∧ dims s = true ∧ prodI s ≤ 4096 := by simp [shOk, and_assoc]

theorem c_shapeSize (s : List Int) (a : Option Addr) (n c : Nat) : Con Tryz.prog 89 #[.slice a n c] [] [aSl I s a n c]
    (fun _ : Unit => True) (fun _ => .int .i64 (szOf s)) (fun _ => []) (fun _ => []) := by
  refine con_of (n := 20) Tryz.func89 rfl rfl rfl (by simp) ?_
  intro C hC
  refine T_pure (φ := n = s.length ∧ n ≤ maxLen) (fun w h => ⟨(sl_len h (xs := s) (a := a) (by repeat (first | with_reducible exact In.head | apply In.tail))).1, Nat.le_trans (sl_len h (xs := s) (a := a) (by repeat (first | with_reducible exact In.head | apply In.tail))).2.1 (sl_len h (xs := s) (a := a) (by repeat (first | with_reducible exact In.head | apply In.tail))).2.2⟩) (fun hlen => ?_)
  obtain ⟨hm, hmax⟩ := hlen
  unfold maxLen at hmax
  refine T_seq (T_reg rfl ?_)
  refine V_q (q_asg rfl rfl) rfl rfl ?_
  refine V_next (fun _ => rfl) ?_
  refine T_seq ?_
  refine T_seq (T_reg rfl ?_)
  refine V_q (q_mov rfl rfl) rfl rfl ?_
  refine V_l (l_call rfl ent88 rfl (c_shapeRight s a n c) (by repeat (first | with_reducible exact Pick.nil | apply Pick.cons (by repeat (first | with_reducible exact Sel.head | apply Sel.tail)))) (by repeat (first | with_reducible exact Ins.nil | refine Ins.cons (by repeat (first | with_reducible exact In.head | apply In.tail)) ?_)) (fun _ => (by repeat (first | with_reducible exact App.nil | apply App.cons))) (fun _ => (by repeat (first | with_reducible exact App.nil | apply App.cons)))) rfl rfl ?_; rintro g7 -
  refine V_q (q_not rfl rfl) rfl rfl ?_
  refine V_next (fun _ => rfl) ?_
  refine T_cond rfl (fun hb => ?_) (fun hb => ?_)
  · refine T_seq (T_reg rfl ?_)
    refine V_q (q_asg rfl rfl) rfl rfl ?_
    refine V_next (fun _ => rfl) ?_
    have hb' : shOk s = false := by simpa using hb
    exact T_ret fun w h => ⟨_, res_1 rfl, (), trivial, by simp [szOf, hb'], h.weak (List.nil_sublist _) (by simp)⟩
  have hok : shOk s = true := by simpa using hb
  obtain ⟨h4, hdm, _⟩ := (shOk_iff s).1 hok
  clear hb
  refine T_skip_next (fun _ => rfl) ?_
  refine T_seq (T_reg rfl ?_)
  refine V_q (q_asg rfl rfl) rfl rfl ?_
  refine V_next (fun _ => rfl) ?_
  refine T_seq ?_
  refine T_seq (T_reg rfl ?_)
  refine V_q (q_mov rfl rfl) rfl rfl ?_
  refine V_q (q_len rfl Tryz.underlying22 rfl) rfl rfl ?_
  refine V_q (q_mov rfl rfl) rfl rfl ?_
  refine V_next (fun _ => rfl) ?_
  refine T_block ?_
  refine T_loop (fun i : Nat => [(3, .int .i64 (prodI (s.take i))), (9, .slice a n c), (10, .int .i64 n), (11, .int .i64 i)]) (fun _ => []) (fun _ => [aSl I s a n c])
    (fun i => i ≤ n) (fun i => n - i) 0 (by omega) ⟨rfl, rfl, rfl, rfl, trivial⟩ (fun w h => h) ?_
  intro i hi
  have hpb := prod_bounds i s (by omega) fun j hj _ => dims_get hdm hj
  have hp4 := pow4 (i := i) (by omega)
  refine T_seq (T_reg rfl ?_)
  refine V_q (q_lt rfl rfl rfl) rfl rfl ?_
  refine V_next (fun _ => rfl) ?_
  refine T_seq ?_
  refine T_cond rfl (fun hb => ?_) (fun hb => ?_)
  rotate_left
  · have ht : s.take i = s := List.take_of_length_le (by
      have : ¬ (i : Int) < n := by simpa using hb
      omega)
    refine T_exit_next (fun _ => rfl) ?_
    refine T_seq (T_reg rfl ?_)
    refine V_q (q_mov rfl rfl) rfl rfl ?_
    refine V_q (q_asg rfl rfl) rfl rfl ?_
    refine V_next (fun _ => rfl) ?_
    exact T_ret fun w h => ⟨_, res_1 rfl, (), trivial, by rw [ht]; simp [szOf, hok], h.weak (List.nil_sublist _) (by simp)⟩
  have hin : i < n := by
    have : (i : Int) < n := by simpa using hb
    omega
  clear hb
  refine T_skip_next (fun _ => rfl) ?_
  refine T_seq ?_
  refine T_block ?_
  refine T_seq (T_reg rfl ?_)
  refine V_q (q_iaN rfl Tryz.underlying22 ty3 rfl rfl (by omega) (by repeat (first | with_reducible exact In.head | apply In.tail))) rfl rfl ?_
  refine V_q (q_ldN rfl ty3 rfl (by repeat (first | with_reducible exact In.head | apply In.tail)) (by omega)) rfl rfl ?_
  refine V_q (q_asg rfl rfl) rfl rfl ?_
  refine V_next (fun _ => rfl) ?_
  have hx : s.getD i 0 = s[i]'(by omega) := by simp [List.getD_eq_getElem?_getD, List.getElem?_eq_getElem (show i < s.length by omega)]
  rw [hx]
  have hdk := dims_get hdm (show i < s.length by omega)
  have hms := mul_small hpb.1 (by omega) hdk.1 hdk.2
  refine T_reg rfl ?_
  refine V_q (q_mov rfl rfl) rfl rfl ?_
  refine V_q (q_mov rfl rfl) rfl rfl ?_
  refine V_q (q_mulI rfl rfl rfl (by omega)) rfl rfl ?_
  refine V_q (q_asg rfl rfl) rfl rfl ?_
  refine V_next (fun _ => rfl) ?_
  refine T_reg rfl ?_
  refine V_q (q_addI rfl rfl rfl (by omega)) rfl rfl ?_
  refine V_q (q_mov rfl rfl) rfl rfl ?_
  refine V_nil ?_
  exact fun w h => ⟨i + 1, ⟨by omega, by omega⟩, ⟨by rw [prodI_take (by omega)]; rfl, rfl, rfl, rfl, trivial⟩, h⟩

def tnOk (t : Tn) : Bool := shOk t.sh && decide ((t.da.length : Int) = szOf t.sh)

theorem c_tensorRight (t : Tn) (a b : Option Addr) (n c m d : Nat) : Con Tryz.prog 60 #[.agg #[.slice a n c, .slice b m d]] [] [aSl I t.sh a n c, aSl I t.da b m d]
    (fun _ : Unit => True) (fun _ => .bool (tnOk t)) (fun _ => []) (fun _ => []) := by
  refine con_of (n := 15) Tryz.func60 rfl rfl rfl (by simp) ?_
  intro C hC
  refine T_pure (φ := m = t.da.length) (fun w h => (sl_len h (xs := t.da) (a := b) (by repeat (first | with_reducible exact In.head | apply In.tail))).1) (fun hm => ?_)
  refine T_seq (T_reg rfl ?_)
  refine V_l (l_boxA rfl rfl) rfl rfl ?_; rintro g1 -
  refine V_q (q_asg rfl rfl) rfl rfl ?_
  refine V_next (fun _ => rfl) ?_
  cases hok : shOk t.sh with
  | false =>
    have cr := c_shapeRight t.sh a n c
    rw [hok] at cr
    refine T_seq (T_drawn hmix (.pure 0 <| .quiet 1 <| .bar 2 <| .pure 3 <| .pure 4 <| .quiet 5 <| .pure 6 <| .pure 7 <| .quiet 8 <| .loud 9 <| .pure 10 <| .pure 11 <| .pure 12 <| .fin) (by decide +kernel) ?_)
    refine W_p rfl (q_fa rfl fd28_0 rfl) rfl rfl ?_
    refine W_ld rfl rfl ty22 rfl (by repeat (first | with_reducible exact Sel.head | apply Sel.tail)) rfl rfl rfl ?_
    refine W_b rfl (l_call rfl ent88 rfl (cr) (by repeat (first | with_reducible exact Pick.nil | apply Pick.cons (by repeat (first | with_reducible exact Sel.head | apply Sel.tail)))) (by repeat (first | with_reducible exact Ins.nil | refine Ins.cons (by repeat (first | with_reducible exact In.head | apply In.tail)) ?_)) (fun _ => (by repeat (first | with_reducible exact App.nil | apply App.cons))) (fun _ => (by repeat (first | with_reducible exact App.nil | apply App.cons)))) rfl rfl ?_; rintro g5 -
    refine W_p rfl (q_mov rfl rfl) rfl rfl ?_
    refine W_pskip rfl rfl rfl ?_
    refine W_quietskip rfl rfl rfl ?_
    refine W_pskip rfl rfl rfl ?_
    refine W_pskip rfl rfl rfl ?_
    refine W_quietskip rfl rfl rfl ?_
    refine W_loudskip rfl rfl rfl ?_
    refine W_pskip rfl rfl rfl ?_
    refine W_p rfl (q_pick rfl rfl rfl rfl) rfl rfl ?_
    refine W_p rfl (q_asg rfl rfl) rfl rfl ?_
    refine W_next (fun _ => rfl) ?_
    exact T_ret fun w h => ⟨_, res_1 rfl, (), trivial, by simp [tnOk, hok], h.weak (List.nil_sublist _) (by simp)⟩
  | true =>
    have cr := c_shapeRight t.sh a n c
    rw [hok] at cr
    refine T_seq (T_drawn hmix (.pure 0 <| .quiet 1 <| .bar 2 <| .pure 3 <| .pure 4 <| .quiet 5 <| .pure 6 <| .pure 7 <| .quiet 8 <| .loud 9 <| .pure 10 <| .pure 11 <| .pure 12 <| .fin) (by decide +kernel) ?_)
    refine W_p rfl (q_fa rfl fd28_0 rfl) rfl rfl ?_
    refine W_ld rfl rfl ty22 rfl (by repeat (first | with_reducible exact Sel.head | apply Sel.tail)) rfl rfl rfl ?_
    refine W_b rfl (l_call rfl ent88 rfl (cr) (by repeat (first | with_reducible exact Pick.nil | apply Pick.cons (by repeat (first | with_reducible exact Sel.head | apply Sel.tail)))) (by repeat (first | with_reducible exact Ins.nil | refine Ins.cons (by repeat (first | with_reducible exact In.head | apply In.tail)) ?_)) (fun _ => (by repeat (first | with_reducible exact App.nil | apply App.cons))) (fun _ => (by repeat (first | with_reducible exact App.nil | apply App.cons)))) rfl rfl ?_; rintro g5 -
    refine W_p rfl (q_mov rfl rfl) rfl rfl ?_
    refine W_p rfl (q_fa rfl fd28_1 rfl) rfl rfl ?_
    refine W_ld rfl rfl ty26 rfl (by repeat (first | with_reducible exact Sel.head | apply Sel.tail)) rfl rfl rfl ?_
    refine W_p rfl (q_len rfl Tryz.underlying26 rfl) rfl rfl ?_
    refine W_p rfl (q_fa rfl fd28_0 rfl) rfl rfl ?_
    refine W_ld rfl rfl ty22 rfl (by repeat (first | with_reducible exact Sel.head | apply Sel.tail)) rfl rfl rfl ?_
    refine W_l rfl (l_call rfl ent89 rfl (c_shapeSize t.sh a n c) (by repeat (first | with_reducible exact Pick.nil | apply Pick.cons (by repeat (first | with_reducible exact Sel.head | apply Sel.tail)))) (by repeat (first | with_reducible exact Ins.nil | refine Ins.cons (by repeat (first | with_reducible exact In.head | apply In.tail)) ?_)) (fun _ => (by repeat (first | with_reducible exact App.nil | apply App.cons))) (fun _ => (by repeat (first | with_reducible exact App.nil | apply App.cons)))) (fun _ _ h => by repeat (first | exact trivial | refine ⟨?_, h.weak (by repeat (first | exact List.Sublist.refl _ | exact List.nil_sublist _ | with_reducible apply List.Sublist.cons_cons | apply List.Sublist.cons)) (by simp +contextual)⟩)) rfl rfl ?_; rintro g12 -
    refine W_p rfl (q_eq rfl rfl rfl) rfl rfl ?_
    refine W_p rfl (q_pick rfl rfl rfl rfl) rfl rfl ?_
    refine W_p rfl (q_asg rfl rfl) rfl rfl ?_
    refine W_next (fun _ => rfl) ?_
    exact T_ret fun w h => ⟨_, res_1 rfl, (), trivial, by simp [tnOk, hok, hm], h.weak (List.nil_sublist _) (by simp)⟩
end Go.Proofs.YtgbhegmhbeekpaaGreat
