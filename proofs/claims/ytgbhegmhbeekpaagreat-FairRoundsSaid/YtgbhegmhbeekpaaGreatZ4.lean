/-
  Picks of a tape.
-/
import Derived.Test.YtgbhegmhbeekpaaGreatZ3
namespace Go.Proofs.YtgbhegmhbeekpaaGreat
open Go
set_option maxRecDepth 100000

def picks (l : List Int) (n : Int) : List Int := (l.take 400).map fun x => within x (-1) n
theorem picks_len (l : List Int) (n : Int) : (picks l n).length = min 400 l.length := by simp [picks]

theorem c_Picks (l : List Int) (a : Option Addr) (n c k : Nat) (hk : k ≤ 1000) : Con Tryz.prog 26 #[.slice a n c, .int .i64 k] [] [aSl I l a n c]
    (fun _ : Option Addr × Nat => True) (fun y => .slice y.1 (min 400 n) y.2) (fun _ => []) (fun y => [aSl I (picks l k) y.1 (min 400 n) y.2]) := by
  refine con_of (n := 27) Tryz.func26 rfl rfl rfl (by simp) ?_
  intro C hC
  refine T_pure (φ := n = l.length) (fun w h => (sl_len h (xs := l) (a := a) (by repeat (first | with_reducible exact In.head | apply In.tail))).1) (fun hn => ?_)
  refine T_seq (T_reg rfl ?_)
  refine V_q (q_asg rfl rfl) rfl rfl ?_
  refine V_next (fun _ => rfl) ?_
  refine T_seq (T_reg rfl ?_)
  refine V_q (q_asg rfl rfl) rfl rfl ?_
  refine V_next (fun _ => rfl) ?_
  refine T_ghost (fun w h => h.rowNil 3 1) ?_
  refine T_seq ?_
  refine T_seq (T_reg rfl ?_)
  refine V_q (q_asg rfl rfl) rfl rfl ?_
  refine V_next (fun _ => rfl) ?_
  refine T_block ?_
  refine T_loop (fun y : Nat × Value => [(0, .slice a n c), (1, .int .i64 k), (5, y.2), (6, .int .i64 y.1)]) (fun y => [rOwn 3 1 y.2 y.1 (((picks l k).take y.1).map (.int .i64))]) (fun _ => [aSl I l a n c])
    (fun y => y.1 ≤ min 400 n) (fun y => 400 - y.1) (0, .slice none 0 0) (Nat.zero_le _) ⟨rfl, rfl, rfl, rfl, trivial⟩ (fun w h => h) ?_
  rintro ⟨i, v⟩ hi
  replace hi : i ≤ min 400 n := hi
  refine T_seq ?_
  refine T_seq (T_reg rfl ?_)
  refine V_q (q_mov rfl rfl) rfl rfl ?_
  refine V_q (q_mov rfl rfl) rfl rfl ?_
  refine V_q (q_len rfl Tryz.underlying22 rfl) rfl rfl ?_
  refine V_q (q_lt rfl rfl rfl) rfl rfl ?_
  refine V_q (q_mov rfl rfl) rfl rfl ?_
  by_cases h1 : (i : Int) < n
  rotate_left
  · rw [decide_eq_false h1]
    refine V_skip rfl rfl ?_
    refine V_skip rfl rfl ?_
    refine V_q (q_pick rfl rfl rfl rfl) rfl rfl ?_
    refine V_next (fun _ => rfl) ?_
    refine T_cond rfl (fun hb => ?_) (fun hb => ?_)
    · cases hb
    have hi' : i = min 400 n := by omega
    refine T_exit_next (fun _ => rfl) ?_
    refine T_ghost (fun w h => h.know (aEv I (picks l k) (((picks l k).take i).map (.int .i64))) (by
      have e : (picks l k).take i = picks l k := List.take_of_length_le (by rw [picks_len]; omega)
      rw [e]
      exact EvP.ints _ _ _ _)) ?_
    refine T_seal I (k := 1) rfl (by decide) (xs := picks l k) (v := v) (n := i) (cs := ((picks l k).take i).map (.int .i64)) (by repeat (first | with_reducible exact Sel.head | apply Sel.tail)) In.head fun a' c' hv => ?_
    subst hv
    subst hi'
    refine T_seq (T_reg rfl ?_)
    refine V_q (q_mov rfl rfl) rfl rfl ?_
    refine V_q (q_asg rfl rfl) rfl rfl ?_
    refine V_next (fun _ => rfl) ?_
    exact T_ret fun w h => ⟨_, res_1 rfl, (a', c'), trivial, rfl, h.weak (List.Sublist.refl _) (by simp)⟩
  rw [decide_eq_true h1]
  refine V_want (q_mov rfl rfl) rfl rfl ?_
  refine V_want (q_lt rfl rfl rfl) rfl rfl ?_
  refine V_q (q_pick rfl rfl rfl rfl) rfl rfl ?_
  refine V_next (fun _ => rfl) ?_
  refine T_cond rfl (fun hb => ?_) (fun hb => ?_)
  rotate_left
  · have hi' : i = min 400 n := by
      have : ¬ (i : Int) < 400 := by simpa using hb
      omega
    refine T_exit_next (fun _ => rfl) ?_
    refine T_ghost (fun w h => h.know (aEv I (picks l k) (((picks l k).take i).map (.int .i64))) (by
      have e : (picks l k).take i = picks l k := List.take_of_length_le (by rw [picks_len]; omega)
      rw [e]
      exact EvP.ints _ _ _ _)) ?_
    refine T_seal I (k := 1) rfl (by decide) (xs := picks l k) (v := v) (n := i) (cs := ((picks l k).take i).map (.int .i64)) (by repeat (first | with_reducible exact Sel.head | apply Sel.tail)) In.head fun a' c' hv => ?_
    subst hv
    subst hi'
    refine T_seq (T_reg rfl ?_)
    refine V_q (q_mov rfl rfl) rfl rfl ?_
    refine V_q (q_asg rfl rfl) rfl rfl ?_
    refine V_next (fun _ => rfl) ?_
    exact T_ret fun w h => ⟨_, res_1 rfl, (a', c'), trivial, rfl, h.weak (List.Sublist.refl _) (by simp)⟩
  have h400 : i < 400 := by
    have : (i : Int) < 400 := by simpa using hb
    omega
  clear hb
  refine T_skip_next (fun _ => rfl) ?_
  refine T_seq ?_
  refine T_block ?_
  refine T_reg rfl ?_
  refine V_q (q_mov rfl rfl) rfl rfl ?_
  refine V_q (q_mov rfl rfl) rfl rfl ?_
  refine V_q (q_mov rfl rfl) rfl rfl ?_
  refine V_q (q_iaN rfl Tryz.underlying22 ty3 rfl rfl (by omega) (by repeat (first | with_reducible exact In.head | apply In.tail))) rfl rfl ?_
  refine V_q (q_ldN rfl ty3 rfl (by repeat (first | with_reducible exact In.head | apply In.tail)) (by omega)) rfl rfl ?_
  refine V_q (q_mov rfl rfl) rfl rfl ?_
  refine V_l (l_call rfl ent41 rfl (c_Within _ (-1) k (by omega) (by omega) (by omega)) (by repeat (first | with_reducible exact Pick.nil | apply Pick.cons (by repeat (first | with_reducible exact Sel.head | apply Sel.tail)))) (by repeat (first | with_reducible exact Ins.nil | refine Ins.cons (by repeat (first | with_reducible exact In.head | apply In.tail)) ?_)) (fun _ => (by repeat (first | with_reducible exact App.nil | apply App.cons))) (fun _ => (by repeat (first | with_reducible exact App.nil | apply App.cons)))) rfl rfl ?_; rintro g23 -
  refine V_l (l_bs [.int .i64 0] rfl Tryz.underlying22 ty3 tz3 (by decide) rfl rfl rfl (by repeat (first | exact FillL.nil | apply FillL.cons rfl rfl (by repeat (first | exact PutL.z | apply PutL.s | apply PutL.t))))) rfl rfl ?_; rintro g24 -
  refine V_l (l_appB rfl Tryz.underlying22 ty3 tz3 tb3 rfl (by decide) rfl rfl (by repeat (first | with_reducible exact Sel.head | apply Sel.tail)) (fun _ => (by repeat (first | with_reducible exact Put.head | apply Put.tail))) rfl rfl (by simp [maxLen]; omega) (by simp; omega)) rfl rfl ?_; rintro v25 -
  refine V_q (q_asg rfl rfl) rfl rfl ?_
  refine V_next (fun _ => rfl) ?_
  refine T_reg rfl ?_
  refine V_q (q_mov rfl rfl) rfl rfl ?_
  refine V_q (q_addI rfl rfl rfl (by omega)) rfl rfl ?_
  refine V_q (q_asg rfl rfl) rfl rfl ?_
  refine V_nil ?_
  intro w h
  have hx : l.getD i 0 = l[i]'(by omega) := by simp [List.getD_eq_getElem?_getD, List.getElem?_eq_getElem (show i < l.length by omega)]
  have e : ((picks l k).take (i + 1)).map (Value.int .i64) = ((picks l k).take i).map (.int .i64) ++ [.int .i64 (within (l.getD i 0) (-1) k)] := by
    rw [List.take_succ_eq_append_getElem (by rw [picks_len]; omega), List.map_append, hx]
    simp [picks]
  refine ⟨(i + 1, v25), ⟨by show 400 - (i + 1) < 400 - i; omega, by show i + 1 ≤ min 400 n; omega⟩, ⟨rfl, rfl, rfl, rfl, trivial⟩, ?_⟩
  show St C [rOwn 3 1 v25 (i + 1) (((picks l k).take (i + 1)).map (.int .i64))] _ _
  rw [e]
  exact h.pick (by repeat (first | with_reducible exact Pick.nil | apply Pick.cons (by repeat (first | with_reducible exact Sel.head | apply Sel.tail)))) (by simp)
end Go.Proofs.YtgbhegmhbeekpaaGreat
