/-
  Contracts: tapes, messages.
-/
import Derived.Test.YtgbhegmhbeekpaaGreatB2
namespace Go.Proofs.YtgbhegmhbeekpaaGreat
open Go
set_option maxRecDepth 100000

def nxt (L : List Int) (i : Nat) (n : Int) : Int × Nat := if L.length ≤ i ∨ n < 1 then (0, i) else ((within (L.getD i 0) 0 1073741824).tmod n, i + 1)

theorem nxt_bounds (L : List Int) (i : Nat) (n : Int) (hn : 1 ≤ n) : 0 ≤ (nxt L i n).1 ∧ (nxt L i n).1 < n ∧ i ≤ (nxt L i n).2 ∧ (nxt L i n).2 ≤ i + 1 ∧ (i ≤ L.length → (nxt L i n).2 ≤ L.length) := by
  unfold nxt
  split
  · exact ⟨by show (0 : Int) ≤ 0; omega, by show (0 : Int) < n; omega, by show i ≤ i; omega, by show i ≤ i + 1; omega, fun h => h⟩
  · have h1 := within_bounds (L.getD i 0) 0 1073741824 (by omega)
    refine ⟨Int.tmod_nonneg _ h1.1, Int.tmod_lt_of_pos _ (by omega), ?_, ?_, fun _ => ?_⟩
    · show i ≤ i + 1; omega
    · show i + 1 ≤ i + 1; omega
    · show i + 1 ≤ L.length; omega

def bigs : List Int := [9223372036854775807, -9223372036854775808, 4611686018427387904, -1099511627776, 8589934592, 3037000500]

def num (L : List Int) (i : Nat) : Int × Nat :=
  if (nxt L i 9).1 = 0 then (bigs.getD (nxt L (nxt L i 9).2 6).1.toNat 0, (nxt L (nxt L i 9).2 6).2)
  else if (nxt L i 9).1 = 1 then (0, (nxt L i 9).2)
  else ((nxt L (nxt L i 9).2 19).1 - 9, (nxt L (nxt L i 9).2 19).2)

theorem num_bounds (L : List Int) (i : Nat) : i ≤ (num L i).2 ∧ (i ≤ L.length → (num L i).2 ≤ L.length) := by
  have h1 := nxt_bounds L i 9 (by omega)
  have h2 := nxt_bounds L (nxt L i 9).2 6 (by omega)
  have h3 := nxt_bounds L (nxt L i 9).2 19 (by omega)
  unfold num
  split
  · exact ⟨Nat.le_trans h1.2.2.1 h2.2.2.1, fun h => h2.2.2.2.2 (h1.2.2.2.2 h)⟩
  · split
    · exact ⟨h1.2.2.1, h1.2.2.2.2⟩
    · exact ⟨Nat.le_trans h1.2.2.1 h3.2.2.1, fun h => h3.2.2.2.2 (h1.2.2.2.2 h)⟩

theorem c_Next (L : List Int) (a : Option Addr) (n c g i : Nat) (k : Int) : Con Tryz.prog 54 #[.pointer (some ⟨g, 0, none⟩), .int .i64 k] [rBlk g 25 [.slice a n c, .int .i64 i]] [aSl I L a n c]
    (fun _ : Unit => True) (fun _ => .int .i64 (nxt L i k).1) (fun _ => [rBlk g 25 [.slice a n c, .int .i64 (nxt L i k).2]]) (fun _ => []) := by
  refine con_of (n := 40) Tryz.func54 rfl rfl rfl (by simp) ?_
  intro C hC
  refine T_pure (φ := n = L.length ∧ n ≤ maxLen) (fun w h => ⟨(sl_len h (xs := L) (a := a) (by repeat (first | with_reducible exact In.head | apply In.tail))).1, Nat.le_trans (sl_len h (xs := L) (a := a) (by repeat (first | with_reducible exact In.head | apply In.tail))).2.1 (sl_len h (xs := L) (a := a) (by repeat (first | with_reducible exact In.head | apply In.tail))).2.2⟩) (fun hlen => ?_)
  obtain ⟨hm, hmax⟩ := hlen
  unfold maxLen at hmax
  refine T_seq (T_reg rfl ?_)
  refine V_q (q_asg rfl rfl) rfl rfl ?_
  refine V_next (fun _ => rfl) ?_
  refine T_seq ?_
  refine T_seq (T_drawn hmix (.pure 0 <| .pure 1 <| .pure 2 <| .quiet 3 <| .pure 4 <| .pure 5 <| .pure 6 <| .quiet 7 <| .pure 8 <| .pure 9 <| .pure 10 <| .pure 11 <| .pure 12 <| .pure 13 <| .fin) (by decide +kernel) ?_)
  refine W_p rfl (q_mov rfl rfl) rfl rfl ?_
  refine W_p rfl (q_nil rfl rfl) rfl rfl ?_
  refine W_p rfl (q_fa rfl fd25_1 rfl) rfl rfl ?_
  refine W_ld rfl rfl ty3 rfl (by repeat (first | with_reducible exact Sel.head | apply Sel.tail)) rfl rfl rfl ?_
  refine W_p rfl (q_mov rfl rfl) rfl rfl ?_
  refine W_p rfl (q_nil rfl rfl) rfl rfl ?_
  refine W_p rfl (q_fa rfl fd25_0 rfl) rfl rfl ?_
  refine W_ld rfl rfl ty22 rfl (by repeat (first | with_reducible exact Sel.head | apply Sel.tail)) rfl rfl rfl ?_
  refine W_p rfl (q_len rfl Tryz.underlying22 rfl) rfl rfl ?_
  refine W_p rfl (q_ge rfl rfl rfl) rfl rfl ?_
  refine W_p rfl (q_mov rfl rfl) rfl rfl ?_
  by_cases h1 : (n : Int) ≤ i
  · have e : nxt L i k = (0, i) := by unfold nxt; rw [if_pos (by omega)]
    rw [decide_eq_true h1]
    refine W_pskip rfl rfl rfl ?_
    refine W_pskip rfl rfl rfl ?_
    refine W_p rfl (q_pick rfl rfl rfl rfl) rfl rfl ?_
    refine W_next (fun _ => rfl) ?_
    refine T_cond rfl (fun hb => ?_) (fun hb => ?_)
    · refine T_seq (T_reg rfl ?_)
      refine V_q (q_asg rfl rfl) rfl rfl ?_
      refine V_next (fun _ => rfl) ?_
      exact T_ret fun w h => ⟨_, res_1 rfl, (), trivial, by rw [e], h.weak (by rw [e]; exact List.Sublist.refl _) (by simp)⟩
    · simp at hb
  rw [decide_eq_false h1]
  refine W_p rfl (q_mov rfl rfl) rfl rfl ?_
  refine W_p rfl (q_lt rfl rfl rfl) rfl rfl ?_
  refine W_p rfl (q_pick rfl rfl rfl rfl) rfl rfl ?_
  refine W_next (fun _ => rfl) ?_
  refine T_cond rfl (fun hb => ?_) (fun hb => ?_)
  · have e : nxt L i k = (0, i) := by unfold nxt; rw [if_pos (by simp at hb; omega)]
    refine T_seq (T_reg rfl ?_)
    refine V_q (q_asg rfl rfl) rfl rfl ?_
    refine V_next (fun _ => rfl) ?_
    exact T_ret fun w h => ⟨_, res_1 rfl, (), trivial, by rw [e], h.weak (by rw [e]; exact List.Sublist.refl _) (by simp)⟩
  have hk : ¬ k < 1 := by simpa using hb
  have e : nxt L i k = ((within (L.getD i 0) 0 1073741824).tmod k, i + 1) := by unfold nxt; rw [if_neg (by omega)]
  refine T_skip_next (fun _ => rfl) ?_
  refine T_seq (T_reg rfl ?_)
  refine V_q (q_mov rfl rfl) rfl rfl ?_
  refine V_q (q_nil rfl rfl) rfl rfl ?_
  refine V_q (q_fa rfl fd25_1 rfl) rfl rfl ?_
  refine V_q (q_ld rfl ty3 rfl (by repeat (first | with_reducible exact Sel.head | apply Sel.tail)) rfl) rfl rfl ?_
  refine V_q (q_addI rfl rfl rfl (by omega)) rfl rfl ?_
  refine V_q (q_nil rfl rfl) rfl rfl ?_
  refine V_q (q_fa rfl fd25_1 rfl) rfl rfl ?_
  refine V_n (l_st rfl ty3 rfl rfl rfl rfl rfl (by repeat (first | with_reducible exact Put.head | apply Put.tail)) (by repeat (first | exact PutL.z | apply PutL.s | apply PutL.t))) rfl rfl ?_; rintro ⟨⟩ -
  refine V_next (fun _ => rfl) ?_
  refine T_seq (T_drawn hmix (.pure 0 <| .pure 1 <| .pure 2 <| .quiet 3 <| .pure 4 <| .pure 5 <| .pure 6 <| .quiet 7 <| .pure 8 <| .quiet 9 <| .quiet 10 <| .pure 12 <| .loud 11 <| .pure 13 <| .pure 14 <| .fin) (by decide +kernel) ?_)
  refine W_p rfl (q_mov rfl rfl) rfl rfl ?_
  refine W_p rfl (q_nil rfl rfl) rfl rfl ?_
  refine W_p rfl (q_fa rfl fd25_0 rfl) rfl rfl ?_
  refine W_ld rfl rfl ty22 rfl (by repeat (first | with_reducible exact Sel.head | apply Sel.tail)) rfl rfl rfl ?_
  refine W_p rfl (q_mov rfl rfl) rfl rfl ?_
  refine W_p rfl (q_nil rfl rfl) rfl rfl ?_
  refine W_p rfl (q_fa rfl fd25_1 rfl) rfl rfl ?_
  refine W_ld rfl rfl ty3 rfl (by repeat (first | with_reducible exact Sel.head | apply Sel.tail)) rfl rfl rfl ?_
  refine W_p rfl (q_subE (i : Int) rfl rfl rfl (by omega) (by omega)) rfl rfl ?_
  refine W_a rfl (q_iaN rfl Tryz.underlying22 ty3 rfl rfl (by omega) (by repeat (first | with_reducible exact In.head | apply In.tail))) rfl rfl ?_
  refine W_a rfl (q_ldN rfl ty3 rfl (by repeat (first | with_reducible exact In.head | apply In.tail)) (by omega)) rfl rfl ?_
  refine W_p rfl (q_mov rfl rfl) rfl rfl ?_
  refine W_l rfl (l_call rfl ent41 rfl (c_Within _ 0 1073741824 (by omega) (by omega) (by omega)) (by repeat (first | with_reducible exact Pick.nil | apply Pick.cons (by repeat (first | with_reducible exact Sel.head | apply Sel.tail)))) (by repeat (first | with_reducible exact Ins.nil | refine Ins.cons (by repeat (first | with_reducible exact In.head | apply In.tail)) ?_)) (fun _ => (by repeat (first | with_reducible exact App.nil | apply App.cons))) (fun _ => (by repeat (first | with_reducible exact App.nil | apply App.cons)))) (fun _ _ h => by repeat (first | exact trivial | refine ⟨?_, h.weak (by repeat (first | exact List.Sublist.refl _ | exact List.nil_sublist _ | with_reducible apply List.Sublist.cons_cons | apply List.Sublist.cons)) (by simp +contextual)⟩)) rfl rfl ?_; rintro g37 -
  refine W_p rfl (q_rem rfl rfl rfl (by omega)) rfl rfl ?_
  refine W_p rfl (q_asg rfl rfl) rfl rfl ?_
  refine W_next (fun _ => rfl) ?_
  exact T_ret fun w h => ⟨_, res_1 rfl, (), trivial, by rw [e], h.weak (by rw [e]; exact List.Sublist.refl _) (by simp)⟩

theorem nth_bigs : ∀ i : Nat, i < 6 → nth [.int .i64 9223372036854775807, .int .i64 (-9223372036854775808), .int .i64 4611686018427387904, .int .i64 (-1099511627776), .int .i64 8589934592, .int .i64 3037000500] i = some (.int .i64 (bigs.getD i 0))
  | 0, _ => rfl
  | 1, _ => rfl
  | 2, _ => rfl
  | 3, _ => rfl
  | 4, _ => rfl
  | 5, _ => rfl
  | i + 6, h => by omega

theorem c_Number (L : List Int) (a : Option Addr) (n c g i : Nat) : Con Tryz.prog 76 #[.pointer (some ⟨g, 0, none⟩)] [rBlk g 25 [.slice a n c, .int .i64 i]] [aSl I L a n c]
    (fun _ : Unit => True) (fun _ => .int .i64 (num L i).1) (fun _ => [rBlk g 25 [.slice a n c, .int .i64 (num L i).2]]) (fun _ => []) := by
  refine con_of (n := 17) Tryz.func76 rfl rfl rfl (by simp) ?_
  intro C hC
  have b1 := nxt_bounds L i 9 (by omega)
  have b2 := nxt_bounds L (nxt L i 9).2 6 (by omega)
  have b3 := nxt_bounds L (nxt L i 9).2 19 (by omega)
  refine T_seq (T_reg rfl ?_)
  refine V_q (q_asg rfl rfl) rfl rfl ?_
  refine V_next (fun _ => rfl) ?_
  refine T_seq ?_
  refine T_seq (T_reg rfl ?_)
  refine V_q (q_mov rfl rfl) rfl rfl ?_
  refine V_l (l_call rfl ent54 rfl (c_Next L a n c g i 9) (by repeat (first | with_reducible exact Pick.nil | apply Pick.cons (by repeat (first | with_reducible exact Sel.head | apply Sel.tail)))) (by repeat (first | with_reducible exact Ins.nil | refine Ins.cons (by repeat (first | with_reducible exact In.head | apply In.tail)) ?_)) (fun _ => (by repeat (first | with_reducible exact App.nil | apply App.cons))) (fun _ => (by repeat (first | with_reducible exact App.nil | apply App.cons)))) rfl rfl ?_; rintro g4 -
  refine V_next (fun _ => rfl) ?_
  refine T_block ?_
  refine T_seq (T_reg rfl ?_)
  refine V_q (q_eq rfl rfl rfl) rfl rfl ?_
  refine V_q (q_asg rfl rfl) rfl rfl ?_
  refine V_next (fun _ => rfl) ?_
  refine T_cond rfl (fun hb => ?_) (fun hb => ?_)
  · have hb' : (nxt L i 9).1 = 0 := by simpa using hb
    refine T_seq (T_reg rfl ?_)
    refine V_l (l_bs [.int .i64 0, .int .i64 0, .int .i64 0, .int .i64 0, .int .i64 0, .int .i64 0] rfl Tryz.underlying26 ty2 tz2 (by decide) rfl rfl rfl (by repeat (first | exact FillL.nil | apply FillL.cons rfl rfl (by repeat (first | exact PutL.z | apply PutL.s | apply PutL.t))))) rfl rfl ?_; rintro g7 -
    refine V_q (q_mov rfl rfl) rfl rfl ?_
    refine V_l (l_call rfl ent54 rfl (c_Next L a n c g (nxt L i 9).2 6) (by repeat (first | with_reducible exact Pick.nil | apply Pick.cons (by repeat (first | with_reducible exact Sel.head | apply Sel.tail)))) (by repeat (first | with_reducible exact Ins.nil | refine Ins.cons (by repeat (first | with_reducible exact In.head | apply In.tail)) ?_)) (fun _ => (by repeat (first | with_reducible exact App.nil | apply App.cons))) (fun _ => (by repeat (first | with_reducible exact App.nil | apply App.cons)))) rfl rfl ?_; rintro g9 -
    refine V_q (q_iaO rfl Tryz.underlying26 ty2 rfl rfl b2.1 b2.2.1) rfl rfl ?_
    refine V_q (q_ld rfl ty2 rfl (by repeat (first | with_reducible exact Sel.head | apply Sel.tail)) (by rw [Nat.zero_add, Nat.mul_one]; exact nth_bigs _ (by omega))) rfl rfl ?_
    refine V_q (q_asg rfl rfl) rfl rfl ?_
    refine V_next (fun _ => rfl) ?_
    have e : num L i = (bigs.getD (nxt L (nxt L i 9).2 6).1.toNat 0, (nxt L (nxt L i 9).2 6).2) := by unfold num; rw [if_pos hb']
    exact T_ret fun w h => ⟨_, res_1 rfl, (), trivial, by rw [e], h.weak (by rw [e]; simp) (by simp)⟩
  have hb0 : ¬ (nxt L i 9).1 = 0 := by simpa using hb
  refine T_seq (T_reg rfl ?_)
  refine V_q (q_eq rfl rfl rfl) rfl rfl ?_
  refine V_q (q_asg rfl rfl) rfl rfl ?_
  refine V_next (fun _ => rfl) ?_
  refine T_cond rfl (fun hb => ?_) (fun hb => ?_)
  · have hb' : (nxt L i 9).1 = 1 := by simpa using hb
    refine T_seq (T_reg rfl ?_)
    refine V_q (q_asg rfl rfl) rfl rfl ?_
    refine V_next (fun _ => rfl) ?_
    have e : num L i = (0, (nxt L i 9).2) := by unfold num; rw [if_neg hb0, if_pos hb']
    exact T_ret fun w h => ⟨_, res_1 rfl, (), trivial, by rw [e], h.weak (by rw [e]; exact List.Sublist.refl _) (by simp)⟩
  have hb1 : ¬ (nxt L i 9).1 = 1 := by simpa using hb
  refine T_skip_next (fun _ => rfl) ?_
  refine T_seq (T_reg rfl ?_)
  refine V_q (q_mov rfl rfl) rfl rfl ?_
  refine V_l (l_call rfl ent54 rfl (c_Next L a n c g (nxt L i 9).2 19) (by repeat (first | with_reducible exact Pick.nil | apply Pick.cons (by repeat (first | with_reducible exact Sel.head | apply Sel.tail)))) (by repeat (first | with_reducible exact Ins.nil | refine Ins.cons (by repeat (first | with_reducible exact In.head | apply In.tail)) ?_)) (fun _ => (by repeat (first | with_reducible exact App.nil | apply App.cons))) (fun _ => (by repeat (first | with_reducible exact App.nil | apply App.cons)))) rfl rfl ?_; rintro g15 -
  refine V_q (q_subI rfl rfl rfl (by omega)) rfl rfl ?_
  refine V_q (q_asg rfl rfl) rfl rfl ?_
  refine V_next (fun _ => rfl) ?_
  have e : num L i = ((nxt L (nxt L i 9).2 19).1 - 9, (nxt L (nxt L i 9).2 19).2) := by unfold num; rw [if_neg hb0, if_neg hb1]
  exact T_ret fun w h => ⟨_, res_1 rfl, (), trivial, by rw [e], h.weak (by rw [e]; exact List.Sublist.refl _) (by simp)⟩
end Go.Proofs.YtgbhegmhbeekpaaGreat
