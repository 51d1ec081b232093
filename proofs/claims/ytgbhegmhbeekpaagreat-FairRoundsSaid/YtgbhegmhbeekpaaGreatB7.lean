/-
  Contracts: what compares messages.
-/
import Derived.Test.YtgbhegmhbeekpaaGreatB6
namespace Go.Proofs.YtgbhegmhbeekpaaGreat
open Go
set_option maxRecDepth 100000

def cmpI (x y : Int) : Int := if x < y then -1 else if y < x then 1 else 0
def orI : List Int → Int
  | [] => 0
  | x :: xs => if x = 0 then orI xs else x

theorem c_isNaN (x : Int) : Con Tryz.prog 128 #[.int .i64 x] [] [] (fun _ : Unit => True) (fun _ => .bool false) (fun _ => []) (fun _ => []) := by
  refine con_of (n := 6) Tryz.func128 rfl rfl rfl (by simp) ?_
  intro C hC
  refine T_seq (T_reg rfl ?_)
  refine V_q (q_asg rfl rfl) rfl rfl ?_
  refine V_next (fun _ => rfl) ?_
  refine T_seq (T_reg rfl ?_)
  refine V_q (q_mov rfl rfl) rfl rfl ?_
  refine V_q (q_mov rfl rfl) rfl rfl ?_
  refine V_q (q_ne rfl rfl rfl) rfl rfl ?_
  refine V_q (q_asg rfl rfl) rfl rfl ?_
  refine V_next (fun _ => rfl) ?_
  exact T_ret fun w h => ⟨_, res_1 rfl, (), trivial, by simp, h⟩

theorem c_Compare (x y : Int) : Con Tryz.prog 100 #[.int .i64 x, .int .i64 y] [] [] (fun _ : Unit => True) (fun _ => .int .i64 (cmpI x y)) (fun _ => []) (fun _ => []) := by
  refine con_of (n := 20) Tryz.func100 rfl rfl rfl (by simp) ?_
  intro C hC
  refine T_seq (T_reg rfl ?_)
  refine V_q (q_asg rfl rfl) rfl rfl ?_
  refine V_next (fun _ => rfl) ?_
  refine T_seq (T_reg rfl ?_)
  refine V_q (q_mov rfl rfl) rfl rfl ?_
  refine V_l (l_call rfl ent128 rfl (c_isNaN x) (by repeat (first | with_reducible exact Pick.nil | apply Pick.cons (by repeat (first | with_reducible exact Sel.head | apply Sel.tail)))) (by repeat (first | with_reducible exact Ins.nil | refine Ins.cons (by repeat (first | with_reducible exact In.head | apply In.tail)) ?_)) (fun _ => (by repeat (first | with_reducible exact App.nil | apply App.cons))) (fun _ => (by repeat (first | with_reducible exact App.nil | apply App.cons)))) rfl rfl ?_; rintro g8 -
  refine V_q (q_asg rfl rfl) rfl rfl ?_
  refine V_next (fun _ => rfl) ?_
  refine T_seq (T_reg rfl ?_)
  refine V_q (q_mov rfl rfl) rfl rfl ?_
  refine V_l (l_call rfl ent128 rfl (c_isNaN y) (by repeat (first | with_reducible exact Pick.nil | apply Pick.cons (by repeat (first | with_reducible exact Sel.head | apply Sel.tail)))) (by repeat (first | with_reducible exact Ins.nil | refine Ins.cons (by repeat (first | with_reducible exact In.head | apply In.tail)) ?_)) (fun _ => (by repeat (first | with_reducible exact App.nil | apply App.cons))) (fun _ => (by repeat (first | with_reducible exact App.nil | apply App.cons)))) rfl rfl ?_; rintro g10 -
  refine V_q (q_asg rfl rfl) rfl rfl ?_
  refine V_next (fun _ => rfl) ?_
  refine T_seq ?_
  refine T_seq (T_reg rfl ?_)
  refine V_q (q_mov rfl rfl) rfl rfl ?_
  refine V_next (fun _ => rfl) ?_
  refine T_cond rfl (fun hb => ?_) (fun hb => ?_)
  · cases hb
  refine T_skip_next (fun _ => rfl) ?_
  refine T_seq ?_
  refine T_seq (T_reg rfl ?_)
  refine V_q (q_mov rfl rfl) rfl rfl ?_
  refine V_next (fun _ => rfl) ?_
  refine T_cond rfl (fun hb => ?_) (fun hb => ?_)
  · cases hb
  refine T_skip_next (fun _ => rfl) ?_
  refine T_seq ?_
  refine T_seq (T_reg rfl ?_)
  refine V_q (q_mov rfl rfl) rfl rfl ?_
  refine V_q (q_mov rfl rfl) rfl rfl ?_
  refine V_q (q_lt rfl rfl rfl) rfl rfl ?_
  refine V_next (fun _ => rfl) ?_
  refine T_cond rfl (fun hb => ?_) (fun hb => ?_)
  · refine T_seq (T_reg rfl ?_)
    refine V_q (q_asg rfl rfl) rfl rfl ?_
    refine V_next (fun _ => rfl) ?_
    have h1 : x < y := by simpa using hb
    exact T_ret fun w h => ⟨_, res_1 rfl, (), trivial, by simp [cmpI, h1], h⟩
  have h1 : ¬ x < y := by simpa using hb
  refine T_skip_next (fun _ => rfl) ?_
  refine T_seq ?_
  refine T_seq (T_reg rfl ?_)
  refine V_q (q_mov rfl rfl) rfl rfl ?_
  refine V_q (q_mov rfl rfl) rfl rfl ?_
  refine V_q (q_gt rfl rfl rfl) rfl rfl ?_
  refine V_next (fun _ => rfl) ?_
  refine T_cond rfl (fun hb => ?_) (fun hb => ?_)
  · refine T_seq (T_reg rfl ?_)
    refine V_q (q_asg rfl rfl) rfl rfl ?_
    refine V_next (fun _ => rfl) ?_
    have h2 : y < x := by simpa using hb
    exact T_ret fun w h => ⟨_, res_1 rfl, (), trivial, by simp [cmpI, h1, h2], h⟩
  have h2 : ¬ y < x := by simpa using hb
  refine T_skip_next (fun _ => rfl) ?_
  refine T_seq (T_reg rfl ?_)
  refine V_q (q_asg rfl rfl) rfl rfl ?_
  refine V_next (fun _ => rfl) ?_
  exact T_ret fun w h => ⟨_, res_1 rfl, (), trivial, by simp [cmpI, h1, h2], h⟩

theorem c_Or (xs : List Int) (a : Option Addr) (n c : Nat) : Con Tryz.prog 99 #[.slice a n c] [] [aSl I xs a n c] (fun _ : Unit => True) (fun _ => .int .i64 (orI xs)) (fun _ => []) (fun _ => []) := by
  refine con_of (n := 18) Tryz.func99 rfl rfl rfl (by simp) ?_
  intro C hC
  refine T_pure (φ := n = xs.length ∧ n ≤ maxLen) (fun w h => ⟨(sl_len h (xs := xs) (a := a) (by repeat (first | with_reducible exact In.head | apply In.tail))).1, Nat.le_trans (sl_len h (xs := xs) (a := a) (by repeat (first | with_reducible exact In.head | apply In.tail))).2.1 (sl_len h (xs := xs) (a := a) (by repeat (first | with_reducible exact In.head | apply In.tail))).2.2⟩) (fun hlen => ?_)
  obtain ⟨hm, hmax⟩ := hlen
  unfold maxLen at hmax
  refine T_seq (T_reg rfl ?_)
  refine V_q (q_asg rfl rfl) rfl rfl ?_
  refine V_next (fun _ => rfl) ?_
  refine T_seq (T_reg rfl ?_)
  refine V_q (q_asg rfl rfl) rfl rfl ?_
  refine V_next (fun _ => rfl) ?_
  refine T_seq ?_
  refine T_seq (T_reg rfl ?_)
  refine V_q (q_mov rfl rfl) rfl rfl ?_
  refine V_q (q_len rfl Tryz.underlying22 rfl) rfl rfl ?_
  refine V_q (q_mov rfl rfl) rfl rfl ?_
  refine V_next (fun _ => rfl) ?_
  refine T_block ?_
  refine T_loop (fun k : Nat => [(3, .int .i64 0), (6, .slice a n c), (7, .int .i64 n), (8, .int .i64 k)]) (fun _ => []) (fun _ => [aSl I xs a n c])
    (fun k => k ≤ n ∧ orI xs = orI (xs.drop k)) (fun k => n - k) 0 ⟨by omega, by simp⟩ ⟨rfl, rfl, rfl, rfl, trivial⟩ (fun w h => h) ?_
  rintro k ⟨hk, hkk⟩
  refine T_seq (T_reg rfl ?_)
  refine V_q (q_lt rfl rfl rfl) rfl rfl ?_
  refine V_next (fun _ => rfl) ?_
  refine T_seq ?_
  refine T_cond rfl (fun hb => ?_) (fun hb => ?_)
  rotate_left
  · have hkn : k = n := by simp at hb; omega
    refine T_exit_next (fun _ => rfl) ?_
    refine T_seq (T_reg rfl ?_)
    refine V_q (q_mov rfl rfl) rfl rfl ?_
    refine V_q (q_asg rfl rfl) rfl rfl ?_
    refine V_next (fun _ => rfl) ?_
    exact T_ret fun w h => ⟨_, res_1 rfl, (), trivial, by rw [hkk, List.drop_of_length_le (by omega)]; rfl, h.weak (List.nil_sublist _) (by simp)⟩
  have hkn : k < n := by simp at hb; omega
  clear hb
  refine T_skip_next (fun _ => rfl) ?_
  refine T_seq ?_
  refine T_block ?_
  refine T_seq (T_reg rfl ?_)
  refine V_q (q_iaN rfl Tryz.underlying22 ty3 rfl rfl (by omega) (by repeat (first | with_reducible exact In.head | apply In.tail))) rfl rfl ?_
  refine V_q (q_ldN rfl ty3 rfl (by repeat (first | with_reducible exact In.head | apply In.tail)) (by omega)) rfl rfl ?_
  refine V_q (q_asg rfl rfl) rfl rfl ?_
  refine V_next (fun _ => rfl) ?_
  refine T_seq (T_reg rfl ?_)
  refine V_q (q_mov rfl rfl) rfl rfl ?_
  refine V_q (q_mov rfl rfl) rfl rfl ?_
  refine V_q (q_ne rfl rfl rfl) rfl rfl ?_
  refine V_next (fun _ => rfl) ?_
  have hxk : xs.getD k 0 = xs[k]'(by omega) := by simp [List.getD_eq_getElem?_getD, List.getElem?_eq_getElem (show k < xs.length by omega)]
  have hd : xs.drop k = xs[k]'(by omega) :: xs.drop (k + 1) := List.drop_eq_getElem_cons (by omega)
  rw [hxk]
  refine T_cond rfl (fun hb => ?_) (fun hb => ?_)
  · refine T_seq (T_reg rfl ?_)
    refine V_q (q_mov rfl rfl) rfl rfl ?_
    refine V_q (q_asg rfl rfl) rfl rfl ?_
    refine V_next (fun _ => rfl) ?_
    have h1 : ¬ xs[k]'(by omega) = 0 := by simpa using hb
    exact T_ret fun w h => ⟨_, res_1 rfl, (), trivial, by rw [hkk, hd, orI, if_neg h1], h.weak (List.nil_sublist _) (by simp)⟩
  have h1 : xs[k]'(by omega) = 0 := by simpa using hb
  refine T_skip_next (fun _ => rfl) ?_
  refine T_reg rfl ?_
  refine V_q (q_addI rfl rfl rfl (by omega)) rfl rfl ?_
  refine V_q (q_mov rfl rfl) rfl rfl ?_
  refine V_nil ?_
  exact fun w h => ⟨k + 1, ⟨by omega, by omega, by rw [hkk, hd, orI, if_pos h1]⟩, ⟨rfl, rfl, rfl, rfl, trivial⟩, h⟩

def cmp3 (x y : Key3) : Int := orI [cmpI x.1 y.1, cmpI x.2.1 y.2.1, cmpI x.2.2 y.2.2]

theorem c_All1 (x y : Key3) (a b a' b' : Option Addr) (n c m d n' c' m' d' : Nat) : Con Tryz.prog 98 #[.agg #[.int .i64 x.1, .int .i64 x.2.1, .int .i64 x.2.2, .slice a n c, .slice b m d], .agg #[.int .i64 y.1, .int .i64 y.2.1, .int .i64 y.2.2, .slice a' n' c', .slice b' m' d']] [] []
    (fun _ : Unit => True) (fun _ => .int .i64 (cmp3 x y)) (fun _ => []) (fun _ => []) := by
  refine con_of (n := 22) Tryz.func98 rfl rfl rfl (by simp) ?_
  intro C hC
  refine T_seq (T_reg rfl ?_)
  refine V_l (l_boxA rfl rfl) rfl rfl ?_; rintro g2 -
  refine V_l (l_boxA rfl rfl) rfl rfl ?_; rintro g3 -
  refine V_q (q_asg rfl rfl) rfl rfl ?_
  refine V_next (fun _ => rfl) ?_
  refine T_seq (T_drawn hmix (.pure 0 <| .quiet 1 <| .pure 2 <| .quiet 3 <| .pure 5 <| .quiet 6 <| .pure 7 <| .quiet 8 <| .pure 10 <| .quiet 11 <| .pure 12 <| .quiet 13 <| .loud 4 <| .loud 9 <| .loud 14 <| .loud 15 <| .loud 16 <| .pure 17 <| .fin) (by decide +kernel) ?_)
  refine W_p rfl (q_fa rfl fd131_0 rfl) rfl rfl ?_
  refine W_ld rfl rfl ty3 rfl (by repeat (first | with_reducible exact Sel.head | apply Sel.tail)) rfl rfl rfl ?_
  refine W_p rfl (q_fa rfl fd131_0 rfl) rfl rfl ?_
  refine W_ld rfl rfl ty3 rfl (by repeat (first | with_reducible exact Sel.head | apply Sel.tail)) rfl rfl rfl ?_
  refine W_p rfl (q_fa rfl fd131_1 rfl) rfl rfl ?_
  refine W_ld rfl rfl ty3 rfl (by repeat (first | with_reducible exact Sel.head | apply Sel.tail)) rfl rfl rfl ?_
  refine W_p rfl (q_fa rfl fd131_1 rfl) rfl rfl ?_
  refine W_ld rfl rfl ty3 rfl (by repeat (first | with_reducible exact Sel.head | apply Sel.tail)) rfl rfl rfl ?_
  refine W_p rfl (q_fa rfl fd131_2 rfl) rfl rfl ?_
  refine W_ld rfl rfl ty3 rfl (by repeat (first | with_reducible exact Sel.head | apply Sel.tail)) rfl rfl rfl ?_
  refine W_p rfl (q_fa rfl fd131_2 rfl) rfl rfl ?_
  refine W_ld rfl rfl ty3 rfl (by repeat (first | with_reducible exact Sel.head | apply Sel.tail)) rfl rfl rfl ?_
  refine W_l rfl (l_call rfl ent100 rfl (c_Compare x.1 y.1) (by repeat (first | with_reducible exact Pick.nil | apply Pick.cons (by repeat (first | with_reducible exact Sel.head | apply Sel.tail)))) (by repeat (first | with_reducible exact Ins.nil | refine Ins.cons (by repeat (first | with_reducible exact In.head | apply In.tail)) ?_)) (fun _ => (by repeat (first | with_reducible exact App.nil | apply App.cons))) (fun _ => (by repeat (first | with_reducible exact App.nil | apply App.cons)))) (fun _ _ h => by repeat (first | exact trivial | refine ⟨?_, h.weak (by repeat (first | exact List.Sublist.refl _ | exact List.nil_sublist _ | with_reducible apply List.Sublist.cons_cons | apply List.Sublist.cons)) (by simp +contextual)⟩)) rfl rfl ?_; rintro g9 -
  refine W_l rfl (l_call rfl ent100 rfl (c_Compare x.2.1 y.2.1) (by repeat (first | with_reducible exact Pick.nil | apply Pick.cons (by repeat (first | with_reducible exact Sel.head | apply Sel.tail)))) (by repeat (first | with_reducible exact Ins.nil | refine Ins.cons (by repeat (first | with_reducible exact In.head | apply In.tail)) ?_)) (fun _ => (by repeat (first | with_reducible exact App.nil | apply App.cons))) (fun _ => (by repeat (first | with_reducible exact App.nil | apply App.cons)))) (fun _ _ h => by repeat (first | exact trivial | refine ⟨?_, h.weak (by repeat (first | exact List.Sublist.refl _ | exact List.nil_sublist _ | with_reducible apply List.Sublist.cons_cons | apply List.Sublist.cons)) (by simp +contextual)⟩)) rfl rfl ?_; rintro g14 -
  refine W_l rfl (l_call rfl ent100 rfl (c_Compare x.2.2 y.2.2) (by repeat (first | with_reducible exact Pick.nil | apply Pick.cons (by repeat (first | with_reducible exact Sel.head | apply Sel.tail)))) (by repeat (first | with_reducible exact Ins.nil | refine Ins.cons (by repeat (first | with_reducible exact In.head | apply In.tail)) ?_)) (fun _ => (by repeat (first | with_reducible exact App.nil | apply App.cons))) (fun _ => (by repeat (first | with_reducible exact App.nil | apply App.cons)))) (fun _ _ h => by repeat (first | exact trivial | refine ⟨?_, h.weak (by repeat (first | exact List.Sublist.refl _ | exact List.nil_sublist _ | with_reducible apply List.Sublist.cons_cons | apply List.Sublist.cons)) (by simp +contextual)⟩)) rfl rfl ?_; rintro g19 -
  refine W_l rfl (l_bs [.int .i64 0, .int .i64 0, .int .i64 0] rfl Tryz.underlying22 ty3 tz3 (by decide) rfl rfl rfl (by repeat (first | exact FillL.nil | apply FillL.cons rfl rfl (by repeat (first | exact PutL.z | apply PutL.s | apply PutL.t))))) (fun _ _ h => by repeat (first | exact trivial | refine ⟨?_, h.weak (by repeat (first | exact List.Sublist.refl _ | exact List.nil_sublist _ | with_reducible apply List.Sublist.cons_cons | apply List.Sublist.cons)) (by simp +contextual)⟩)) rfl rfl ?_; rintro g20 -
  refine W_ghost (fun w h => h.sealI (k := .i64) (n := 3) (cs := [.int .i64 (cmpI x.1 y.1), .int .i64 (cmpI x.2.1 y.2.1), .int .i64 (cmpI x.2.2 y.2.2)]) [cmpI x.1 y.1, cmpI x.2.1 y.2.1, cmpI x.2.2 y.2.2] (by repeat (first | with_reducible exact Sel.head | apply Sel.tail)) rfl rfl (by decide)) (fun _ h => by repeat (first | exact trivial | refine ⟨?_, h.weak (by repeat (first | exact List.Sublist.refl _ | exact List.nil_sublist _ | with_reducible apply List.Sublist.cons_cons | apply List.Sublist.cons)) (by simp +contextual)⟩)) ?_
  refine W_l rfl (l_call rfl ent99 rfl (c_Or _ _ _ _) (by repeat (first | with_reducible exact Pick.nil | apply Pick.cons (by repeat (first | with_reducible exact Sel.head | apply Sel.tail)))) (by repeat (first | with_reducible exact Ins.nil | refine Ins.cons (by repeat (first | with_reducible exact In.head | apply In.tail)) ?_)) (fun _ => (by repeat (first | with_reducible exact App.nil | apply App.cons))) (fun _ => (by repeat (first | with_reducible exact App.nil | apply App.cons)))) (fun _ _ h => by repeat (first | exact trivial | refine ⟨?_, h.weak (by repeat (first | exact List.Sublist.refl _ | exact List.nil_sublist _ | with_reducible apply List.Sublist.cons_cons | apply List.Sublist.cons)) (by simp +contextual)⟩)) rfl rfl ?_; rintro g21 -
  refine W_p rfl (q_asg rfl rfl) rfl rfl ?_
  refine W_next (fun _ => rfl) ?_
  exact T_ret fun w h => ⟨_, res_1 rfl, (), trivial, rfl, h.weak (List.nil_sublist _) (by simp)⟩
end Go.Proofs.YtgbhegmhbeekpaaGreat
