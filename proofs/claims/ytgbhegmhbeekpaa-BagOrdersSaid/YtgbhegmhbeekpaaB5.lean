/-
  Contracts: lists of messages, compared and put in order.
-/
import Derived.Test.YtgbhegmhbeekpaaB4
namespace Go.Proofs.Ytgbhegmhbeekpaa
open Go

theorem c_Messages (ms ns : List Msg) (a b : Option Addr) (n c m d : Nat) : Con Try.prog 12 #[.slice a n c, .slice b m d] [] [aSl rMsg ms a n c, aSl rMsg ns b m d]
    (fun _ : Unit => True) (fun _ => .bool (decide (ms = ns))) (fun _ => []) (fun _ => []) := by
  refine con_of (n := 68) Try.func12 rfl rfl rfl (by simp) ?_
  intro C hC
  refine T_pure (φ := n = ms.length ∧ n ≤ maxLen ∧ m = ns.length) (fun w h => ⟨(sl_len h (xs := ms) (a := a) (by repeat (first | with_reducible exact In.head | apply In.tail))).1, Nat.le_trans (sl_len h (xs := ms) (a := a) (by repeat (first | with_reducible exact In.head | apply In.tail))).2.1 (sl_len h (xs := ms) (a := a) (by repeat (first | with_reducible exact In.head | apply In.tail))).2.2, (sl_len h (xs := ns) (a := b) (by repeat (first | with_reducible exact In.head | apply In.tail))).1⟩) (fun hlen => ?_)
  obtain ⟨hn, hmax, hm⟩ := hlen
  unfold maxLen at hmax
  refine T_seq (T_reg rfl ?_)
  refine V_q (q_asg rfl rfl) rfl rfl ?_
  refine V_next (fun _ => rfl) ?_
  refine T_seq ?_
  refine T_seq (T_reg rfl ?_)
  refine V_q (q_mov rfl rfl) rfl rfl ?_
  refine V_q (q_len rfl Try.underlying43 rfl) rfl rfl ?_
  refine V_q (q_mov rfl rfl) rfl rfl ?_
  refine V_q (q_len rfl Try.underlying43 rfl) rfl rfl ?_
  refine V_q (q_ne rfl rfl rfl) rfl rfl ?_
  refine V_next (fun _ => rfl) ?_
  refine T_cond rfl (fun hb => ?_) (fun hb => ?_)
  · refine T_seq (T_reg rfl ?_)
    refine V_q (q_asg rfl rfl) rfl rfl ?_
    refine V_next (fun _ => rfl) ?_
    have : ms ≠ ns := by rintro rfl; simp at hb; omega
    exact T_ret fun w h => ⟨_, res_1 rfl, (), trivial, by simp [this], h.weak (List.nil_sublist _) (by simp)⟩
  have hnm : n = m := by simp at hb; omega
  subst hnm
  clear hb
  refine T_skip_next (fun _ => rfl) ?_
  refine T_seq ?_
  refine T_seq (T_reg rfl ?_)
  refine V_q (q_mov rfl rfl) rfl rfl ?_
  refine V_q (q_len rfl Try.underlying43 rfl) rfl rfl ?_
  refine V_q (q_mov rfl rfl) rfl rfl ?_
  refine V_next (fun _ => rfl) ?_
  refine T_block ?_
  refine T_loop (fun k : Nat => [(0, .slice a n c), (1, .slice b n d), (12, .int .i64 n), (13, .int .i64 k)]) (fun _ => []) (fun _ => [aSl rMsg ms a n c, aSl rMsg ns b n d])
    (fun k => k ≤ n ∧ ms.take k = ns.take k) (fun k => n - k) 0 ⟨by omega, by simp⟩ ⟨rfl, rfl, rfl, rfl, trivial⟩ (fun w h => h) ?_
  rintro k ⟨hk, hkk⟩
  refine T_seq (T_reg rfl ?_)
  refine V_q (q_lt rfl rfl rfl) rfl rfl ?_
  refine V_next (fun _ => rfl) ?_
  refine T_seq ?_
  refine T_cond rfl (fun hb => ?_) (fun hb => ?_)
  rotate_left
  · have hkn : k = n := by simp at hb; omega
    have hxy : ms = ns := by rw [hkn] at hkk; rwa [List.take_of_length_le (by omega), List.take_of_length_le (by omega)] at hkk
    refine T_exit_next (fun _ => rfl) ?_
    refine T_seq (T_reg rfl ?_)
    refine V_q (q_asg rfl rfl) rfl rfl ?_
    refine V_next (fun _ => rfl) ?_
    exact T_ret fun w h => ⟨_, res_1 rfl, (), trivial, by simp [hxy], h.weak (List.nil_sublist _) (by simp)⟩
  have hkn : k < n := by simp at hb; omega
  clear hb
  refine T_skip_next (fun _ => rfl) ?_
  refine T_cut (fun _ : Unit => [(0, .slice a n c), (1, .slice b n d), (12, .int .i64 n), (13, .int .i64 k)]) (fun _ => []) (fun _ => [aSl rMsg ms a n c, aSl rMsg ns b n d]) (fun _ => ms[k]? = ns[k]?) ?_ ?_
  · refine T_block ?_
    refine T_msg k (xs := ms) (a := a) (by repeat (first | with_reducible exact In.head | apply In.tail)) hkn fun x ad pa pn pc qa qn qc hx had => ?_
    refine T_msg k (xs := ns) (a := b) (by repeat (first | with_reducible exact In.head | apply In.tail)) hkn fun y bd ra rn rc sa' sn sc hy hbd => ?_
    have hne : x ≠ y → ms ≠ ns := by rintro h rfl; rw [hx] at hy; injection hy with hy; exact h hy
    refine T_seq (T_reg rfl ?_)
    refine V_q (q_mov rfl rfl) rfl rfl ?_
    refine V_q (q_asg rfl rfl) rfl rfl ?_
    refine V_next (fun _ => rfl) ?_
    refine T_seq (T_drawn hmix (.pure 0 <| .pure 1 <| .pure 2 <| .pure 3 <| .quiet 4 <| .pure 5 <| .pure 6 <| .pure 7 <| .pure 8 <| .quiet 9 <| .pure 10 <| .pure 11 <| .pure 12 <| .pure 13 <| .pure 14 <| .pure 15 <| .quiet 16 <| .pure 17 <| .pure 18 <| .pure 19 <| .pure 20 <| .quiet 21 <| .pure 22 <| .pure 23 <| .pure 24 <| .pure 25 <| .pure 26 <| .pure 27 <| .pure 28 <| .quiet 29 <| .pure 30 <| .pure 31 <| .pure 32 <| .pure 33 <| .quiet 34 <| .pure 35 <| .pure 36 <| .pure 37 <| .pure 38 <| .pure 39 <| .pure 40 <| .pure 41 <| .quiet 42 <| .pure 43 <| .pure 44 <| .pure 45 <| .pure 46 <| .quiet 47 <| .loud 48 <| .pure 49 <| .pure 50 <| .fin) (by decide +kernel) ?_)
    refine W_p rfl (q_mov rfl rfl) rfl rfl ?_
    refine W_p rfl (q_mov rfl rfl) rfl rfl ?_
    refine W_p rfl (q_iaE rfl Try.underlying43 ty41 rfl rfl (by omega) (by assumption)) rfl rfl ?_
    refine W_p rfl (q_faR rfl fd41_0 rfl) rfl rfl ?_
    refine W_a rfl (q_ldR rfl ty3 rfl (by repeat (first | with_reducible exact In.head | apply In.tail)) rfl) rfl rfl ?_
    refine W_p rfl (q_mov rfl rfl) rfl rfl ?_
    refine W_p rfl (q_mov rfl rfl) rfl rfl ?_
    refine W_p rfl (q_iaE rfl Try.underlying43 ty41 rfl rfl (by omega) (by assumption)) rfl rfl ?_
    refine W_p rfl (q_faR rfl fd41_0 rfl) rfl rfl ?_
    refine W_a rfl (q_ldR rfl ty3 rfl (by repeat (first | with_reducible exact In.head | apply In.tail)) rfl) rfl rfl ?_
    refine W_p rfl (q_ne rfl rfl rfl) rfl rfl ?_
    refine W_p rfl (q_mov rfl rfl) rfl rfl ?_
    by_cases e1 : x.fr ≠ y.fr
    · rw [decide_eq_true e1]
      refine W_pskip rfl rfl rfl ?_
      refine W_pskip rfl rfl rfl ?_
      refine W_pskip rfl rfl rfl ?_
      refine W_pskip rfl rfl rfl ?_
      refine W_quietskip rfl rfl rfl ?_
      refine W_pskip rfl rfl rfl ?_
      refine W_pskip rfl rfl rfl ?_
      refine W_pskip rfl rfl rfl ?_
      refine W_pskip rfl rfl rfl ?_
      refine W_quietskip rfl rfl rfl ?_
      refine W_pskip rfl rfl rfl ?_
      refine W_p rfl (q_pick rfl rfl rfl rfl) rfl rfl ?_
      refine W_p rfl (q_mov rfl rfl) rfl rfl ?_
      refine W_pskip rfl rfl rfl ?_
      refine W_pskip rfl rfl rfl ?_
      refine W_pskip rfl rfl rfl ?_
      refine W_pskip rfl rfl rfl ?_
      refine W_quietskip rfl rfl rfl ?_
      refine W_pskip rfl rfl rfl ?_
      refine W_pskip rfl rfl rfl ?_
      refine W_pskip rfl rfl rfl ?_
      refine W_pskip rfl rfl rfl ?_
      refine W_quietskip rfl rfl rfl ?_
      refine W_pskip rfl rfl rfl ?_
      refine W_p rfl (q_pick rfl rfl rfl rfl) rfl rfl ?_
      refine W_p rfl (q_mov rfl rfl) rfl rfl ?_
      refine W_pskip rfl rfl rfl ?_
      refine W_pskip rfl rfl rfl ?_
      refine W_pskip rfl rfl rfl ?_
      refine W_pskip rfl rfl rfl ?_
      refine W_quietskip rfl rfl rfl ?_
      refine W_pskip rfl rfl rfl ?_
      refine W_pskip rfl rfl rfl ?_
      refine W_pskip rfl rfl rfl ?_
      refine W_pskip rfl rfl rfl ?_
      refine W_quietskip rfl rfl rfl ?_
      refine W_loudskip rfl rfl rfl ?_
      refine W_pskip rfl rfl rfl ?_
      refine W_p rfl (q_pick rfl rfl rfl rfl) rfl rfl ?_
      refine W_next (fun _ => rfl) ?_
      refine T_cond rfl (fun hb => ?_) (fun hb => ?_)
      · refine T_seq (T_reg rfl ?_)
        refine V_q (q_asg rfl rfl) rfl rfl ?_
        refine V_next (fun _ => rfl) ?_
        exact T_ret fun w h => ⟨_, res_1 rfl, (), trivial, by simp [hne (fun h => e1 (by rw [h]))], h.weak (List.nil_sublist _) (by simp)⟩
      · cases hb
    rw [decide_eq_false e1]
    refine W_p rfl (q_mov rfl rfl) rfl rfl ?_
    refine W_p rfl (q_mov rfl rfl) rfl rfl ?_
    refine W_p rfl (q_iaE rfl Try.underlying43 ty41 rfl rfl (by omega) (by assumption)) rfl rfl ?_
    refine W_p rfl (q_faR rfl fd41_1 rfl) rfl rfl ?_
    refine W_a rfl (q_ldR rfl ty3 rfl (by repeat (first | with_reducible exact In.head | apply In.tail)) rfl) rfl rfl ?_
    refine W_p rfl (q_mov rfl rfl) rfl rfl ?_
    refine W_p rfl (q_mov rfl rfl) rfl rfl ?_
    refine W_p rfl (q_iaE rfl Try.underlying43 ty41 rfl rfl (by omega) (by assumption)) rfl rfl ?_
    refine W_p rfl (q_faR rfl fd41_1 rfl) rfl rfl ?_
    refine W_a rfl (q_ldR rfl ty3 rfl (by repeat (first | with_reducible exact In.head | apply In.tail)) rfl) rfl rfl ?_
    refine W_p rfl (q_ne rfl rfl rfl) rfl rfl ?_
    refine W_p rfl (q_pick rfl rfl rfl rfl) rfl rfl ?_
    refine W_p rfl (q_mov rfl rfl) rfl rfl ?_
    by_cases e2 : x.to ≠ y.to
    · rw [decide_eq_true e2]
      refine W_pskip rfl rfl rfl ?_
      refine W_pskip rfl rfl rfl ?_
      refine W_pskip rfl rfl rfl ?_
      refine W_pskip rfl rfl rfl ?_
      refine W_quietskip rfl rfl rfl ?_
      refine W_pskip rfl rfl rfl ?_
      refine W_pskip rfl rfl rfl ?_
      refine W_pskip rfl rfl rfl ?_
      refine W_pskip rfl rfl rfl ?_
      refine W_quietskip rfl rfl rfl ?_
      refine W_pskip rfl rfl rfl ?_
      refine W_p rfl (q_pick rfl rfl rfl rfl) rfl rfl ?_
      refine W_p rfl (q_mov rfl rfl) rfl rfl ?_
      refine W_pskip rfl rfl rfl ?_
      refine W_pskip rfl rfl rfl ?_
      refine W_pskip rfl rfl rfl ?_
      refine W_pskip rfl rfl rfl ?_
      refine W_quietskip rfl rfl rfl ?_
      refine W_pskip rfl rfl rfl ?_
      refine W_pskip rfl rfl rfl ?_
      refine W_pskip rfl rfl rfl ?_
      refine W_pskip rfl rfl rfl ?_
      refine W_quietskip rfl rfl rfl ?_
      refine W_loudskip rfl rfl rfl ?_
      refine W_pskip rfl rfl rfl ?_
      refine W_p rfl (q_pick rfl rfl rfl rfl) rfl rfl ?_
      refine W_next (fun _ => rfl) ?_
      refine T_cond rfl (fun hb => ?_) (fun hb => ?_)
      · refine T_seq (T_reg rfl ?_)
        refine V_q (q_asg rfl rfl) rfl rfl ?_
        refine V_next (fun _ => rfl) ?_
        exact T_ret fun w h => ⟨_, res_1 rfl, (), trivial, by simp [hne (fun h => e2 (by rw [h]))], h.weak (List.nil_sublist _) (by simp)⟩
      · cases hb
    rw [decide_eq_false e2]
    refine W_p rfl (q_mov rfl rfl) rfl rfl ?_
    refine W_p rfl (q_mov rfl rfl) rfl rfl ?_
    refine W_p rfl (q_iaE rfl Try.underlying43 ty41 rfl rfl (by omega) (by assumption)) rfl rfl ?_
    refine W_p rfl (q_faR rfl fd41_2 rfl) rfl rfl ?_
    refine W_a rfl (q_ldR rfl ty3 rfl (by repeat (first | with_reducible exact In.head | apply In.tail)) rfl) rfl rfl ?_
    refine W_p rfl (q_mov rfl rfl) rfl rfl ?_
    refine W_p rfl (q_mov rfl rfl) rfl rfl ?_
    refine W_p rfl (q_iaE rfl Try.underlying43 ty41 rfl rfl (by omega) (by assumption)) rfl rfl ?_
    refine W_p rfl (q_faR rfl fd41_2 rfl) rfl rfl ?_
    refine W_a rfl (q_ldR rfl ty3 rfl (by repeat (first | with_reducible exact In.head | apply In.tail)) rfl) rfl rfl ?_
    refine W_p rfl (q_ne rfl rfl rfl) rfl rfl ?_
    refine W_p rfl (q_pick rfl rfl rfl rfl) rfl rfl ?_
    refine W_p rfl (q_mov rfl rfl) rfl rfl ?_
    by_cases e3 : x.tag ≠ y.tag
    · rw [decide_eq_true e3]
      refine W_pskip rfl rfl rfl ?_
      refine W_pskip rfl rfl rfl ?_
      refine W_pskip rfl rfl rfl ?_
      refine W_pskip rfl rfl rfl ?_
      refine W_quietskip rfl rfl rfl ?_
      refine W_pskip rfl rfl rfl ?_
      refine W_pskip rfl rfl rfl ?_
      refine W_pskip rfl rfl rfl ?_
      refine W_pskip rfl rfl rfl ?_
      refine W_quietskip rfl rfl rfl ?_
      refine W_loudskip rfl rfl rfl ?_
      refine W_pskip rfl rfl rfl ?_
      refine W_p rfl (q_pick rfl rfl rfl rfl) rfl rfl ?_
      refine W_next (fun _ => rfl) ?_
      refine T_cond rfl (fun hb => ?_) (fun hb => ?_)
      · refine T_seq (T_reg rfl ?_)
        refine V_q (q_asg rfl rfl) rfl rfl ?_
        refine V_next (fun _ => rfl) ?_
        exact T_ret fun w h => ⟨_, res_1 rfl, (), trivial, by simp [hne (fun h => e3 (by rw [h]))], h.weak (List.nil_sublist _) (by simp)⟩
      · cases hb
    rw [decide_eq_false e3]
    refine W_p rfl (q_mov rfl rfl) rfl rfl ?_
    refine W_p rfl (q_mov rfl rfl) rfl rfl ?_
    refine W_p rfl (q_iaE rfl Try.underlying43 ty41 rfl rfl (by omega) (by assumption)) rfl rfl ?_
    refine W_p rfl (q_faR rfl fd41_3 rfl) rfl rfl ?_
    refine W_a rfl (q_ldRS rfl ty39 rfl (by repeat (first | with_reducible exact In.head | apply In.tail)) (by repeat (first | exact SubL.z | apply SubL.s | apply SubL.t))) rfl rfl ?_
    refine W_p rfl (q_mov rfl rfl) rfl rfl ?_
    refine W_p rfl (q_mov rfl rfl) rfl rfl ?_
    refine W_p rfl (q_iaE rfl Try.underlying43 ty41 rfl rfl (by omega) (by assumption)) rfl rfl ?_
    refine W_p rfl (q_faR rfl fd41_3 rfl) rfl rfl ?_
    refine W_a rfl (q_ldRS rfl ty39 rfl (by repeat (first | with_reducible exact In.head | apply In.tail)) (by repeat (first | exact SubL.z | apply SubL.s | apply SubL.t))) rfl rfl ?_
    refine W_l rfl (l_call rfl ent18 rfl (c_Same x.t.sh x.t.da y.t.sh y.t.da pa qa ra sa' pn pc qn qc rn rc sn sc) (by repeat (first | with_reducible exact Pick.nil | apply Pick.cons (by repeat (first | with_reducible exact Sel.head | apply Sel.tail)))) (by repeat (first | with_reducible exact Ins.nil | refine Ins.cons (by repeat (first | with_reducible exact In.head | apply In.tail)) ?_)) (fun _ => (by repeat (first | with_reducible exact App.nil | apply App.cons))) (fun _ => (by repeat (first | with_reducible exact App.nil | apply App.cons)))) (fun _ _ h => by repeat (first | exact trivial | refine ⟨?_, h.weak (by repeat (first | exact List.Sublist.refl _ | exact List.nil_sublist _ | with_reducible apply List.Sublist.cons_cons | apply List.Sublist.cons)) (by simp +contextual)⟩)) rfl rfl ?_; rintro g64 -
    refine W_p rfl (q_not rfl rfl) rfl rfl ?_
    refine W_p rfl (q_pick rfl rfl rfl rfl) rfl rfl ?_
    refine W_next (fun _ => rfl) ?_
    refine T_cond rfl (fun hb => ?_) (fun hb => ?_)
    · refine T_seq (T_reg rfl ?_)
      refine V_q (q_asg rfl rfl) rfl rfl ?_
      refine V_next (fun _ => rfl) ?_
      have e4 : ¬ (x.t.sh = y.t.sh ∧ x.t.da = y.t.da) := fun h => by simp [h] at hb
      exact T_ret fun w h => ⟨_, res_1 rfl, (), trivial, by simp [hne (fun h => e4 (by rw [h]; exact ⟨rfl, rfl⟩))], h.weak (List.nil_sublist _) (by simp)⟩
    · have e4 : x.t.sh = y.t.sh ∧ x.t.da = y.t.da := by simpa using hb
      have hxy : x = y := by
        obtain ⟨x1, x2, x3, x4, x5⟩ := x
        obtain ⟨y1, y2, y3, y4, y5⟩ := y
        simp only [ne_eq, Decidable.not_not] at e1 e2 e3
        simp only at e4
        obtain ⟨e4, e5⟩ := e4
        subst e1; subst e2; subst e3; subst e4; subst e5
        rfl
      exact T_skip fun w h => ⟨(), by rw [hx, hy, hxy], ⟨rfl, rfl, rfl, rfl, trivial⟩, h.weak (List.nil_sublist _) (by simp)⟩
  intro _ hxy
  refine T_reg rfl ?_
  refine V_q (q_addI rfl rfl rfl (by omega)) rfl rfl ?_
  refine V_q (q_mov rfl rfl) rfl rfl ?_
  refine V_nil ?_
  intro w h
  refine ⟨k + 1, ⟨by omega, by omega, ?_⟩, ⟨rfl, rfl, rfl, rfl, trivial⟩, h⟩
  rw [List.take_add_one, List.take_add_one, hkk, hxy]

def insK (out : List Msg) (x : Msg) : Nat → Nat
  | 0 => 0
  | k + 1 => match out[k]? with
    | some y => if later y x then insK out x k else k + 1
    | none => 0
theorem insK_le (out : List Msg) (x : Msg) : ∀ k, insK out x k ≤ k
  | 0 => Nat.le_refl _
  | k + 1 => by
    unfold insK
    split
    · split
      · exact Nat.le_trans (insK_le out x k) (Nat.le_succ _)
      · exact Nat.le_refl _
    · exact Nat.zero_le _
def ins (out : List Msg) (x : Msg) : List Msg := out.take (insK out x out.length) ++ [x] ++ out.drop (insK out x out.length)
def sorted (ms : List Msg) : List Msg := ms.foldl ins []
theorem ins_length (out : List Msg) (x : Msg) : (ins out x).length = out.length + 1 := by
  have := insK_le out x out.length
  simp [ins]; omega
theorem foldl_ins_length : ∀ (ms out : List Msg), (ms.foldl ins out).length = out.length + ms.length
  | [], out => by simp
  | x :: ms, out => by rw [List.foldl_cons, foldl_ins_length ms, ins_length]; simp; omega
theorem sorted_length (ms : List Msg) : (sorted ms).length = ms.length := by unfold sorted; rw [foldl_ins_length]; simp
theorem sorted_succ {ms : List Msg} {k : Nat} {x : Msg} (h : ms[k]? = some x) : sorted (ms.take (k + 1)) = ins (sorted (ms.take k)) x := by
  unfold sorted
  rw [List.take_add_one, h, List.foldl_append]
  rfl


theorem c_Sorted (ms : List Msg) (a : Option Addr) (n c : Nat) (hby : n * 72 ≤ 140737488355328) : Con Try.prog 19 #[.slice a n c] [] [aSl rMsg ms a n c]
    (fun _ : Option Addr × Nat => True) (fun y => .slice y.1 n y.2) (fun _ => []) (fun y => [aSl rMsg (sorted ms) y.1 n y.2]) := by
  refine con_of (n := 46) Try.func19 rfl rfl rfl (by simp) ?_
  intro C hC
  refine T_pure (φ := n = ms.length) (fun w h => (sl_len h (xs := ms) (a := a) (by repeat (first | with_reducible exact In.head | apply In.tail))).1) (fun hn => ?_)
  refine T_seq (T_reg rfl ?_)
  refine V_q (q_asg rfl rfl) rfl rfl ?_
  refine V_next (fun _ => rfl) ?_
  refine T_seq (T_reg rfl ?_)
  refine V_q (q_asg rfl rfl) rfl rfl ?_
  refine V_next (fun _ => rfl) ?_
  refine T_seq ?_
  refine T_seq (T_reg rfl ?_)
  refine V_q (q_mov rfl rfl) rfl rfl ?_
  refine V_q (q_len rfl Try.underlying43 rfl) rfl rfl ?_
  refine V_q (q_mov rfl rfl) rfl rfl ?_
  refine V_next (fun _ => rfl) ?_
  refine T_block ?_
  refine T_loop (fun y : Nat × Option Addr × Nat => [(0, .slice a n c), (7, .int .i64 n), (8, .int .i64 y.1), (3, .slice y.2.1 y.1 y.2.2)]) (fun _ => []) (fun y => [aSl rMsg (sorted (ms.take y.1)) y.2.1 y.1 y.2.2, aSl rMsg ms a n c])
    (fun y => y.1 ≤ n) (fun y => n - y.1) (0, none, 0) (by show 0 ≤ n; omega) ⟨rfl, rfl, rfl, rfl, trivial⟩ (fun w h => h.nil rMsg) ?_
  rintro ⟨k, oa, oc⟩ hk
  replace hk : k ≤ n := hk
  refine T_seq (T_reg rfl ?_)
  refine V_q (q_lt rfl rfl rfl) rfl rfl ?_
  refine V_next (fun _ => rfl) ?_
  refine T_seq ?_
  refine T_cond rfl (fun hb => ?_) (fun hb => ?_)
  rotate_left
  · have hkn : k = n := by simp at hb; omega
    subst hkn
    refine T_exit_next (fun _ => rfl) ?_
    refine T_seq (T_reg rfl ?_)
    refine V_q (q_mov rfl rfl) rfl rfl ?_
    refine V_q (q_asg rfl rfl) rfl rfl ?_
    refine V_next (fun _ => rfl) ?_
    exact T_ret fun w h => ⟨_, res_1 rfl, (oa, oc), trivial, rfl, h.weak (List.nil_sublist _) (by simp [hn])⟩
  have hkn : k < n := by simp at hb; omega
  clear hb
  refine T_skip_next (fun _ => rfl) ?_
  refine T_cut (fun y : Option Addr × Nat => [(0, .slice a n c), (7, .int .i64 n), (8, .int .i64 k), (3, .slice y.1 (k + 1) y.2)]) (fun _ => []) (fun y => [aSl rMsg (sorted (ms.take (k + 1))) y.1 (k + 1) y.2, aSl rMsg ms a n c]) (fun _ => True) ?_ ?_
  · refine T_block ?_
    obtain ⟨out, ho⟩ : ∃ out, sorted (ms.take k) = out := ⟨_, rfl⟩
    have hol : out.length = k := by rw [← ho, sorted_length]; simp; omega
    show T _ _ _ _ _ [] [aSl rMsg (sorted (ms.take k)) oa k oc, aSl rMsg ms a n c] _
    rw [ho]
    refine T_msg k (xs := ms) (a := a) (by repeat (first | with_reducible exact In.head | apply In.tail)) hkn fun x ad pa pn pc qa qn qc hx had => ?_
    refine T_seq (T_reg rfl ?_)
    refine V_q (q_mov rfl rfl) rfl rfl ?_
    refine V_q (q_asg rfl rfl) rfl rfl ?_
    refine V_next (fun _ => rfl) ?_
    refine T_seq (T_reg rfl ?_)
    refine V_q (q_mov rfl rfl) rfl rfl ?_
    refine V_q (q_len rfl Try.underlying43 rfl) rfl rfl ?_
    refine V_q (q_asg rfl rfl) rfl rfl ?_
    refine V_next (fun _ => rfl) ?_
    refine T_cut (fun j : Nat => [(0, .slice a n c), (7, .int .i64 n), (8, .int .i64 k), (3, .slice oa k oc), (4, .int .i64 k), (5, .int .i64 j)]) (fun _ => []) (fun _ => [aCells ad [.int .i64 x.fr, .int .i64 x.to, .int .i64 x.tag, .slice pa pn pc, .slice qa qn qc], aSl I x.t.sh pa pn pc, aSl I x.t.da qa qn qc, aSl rMsg out oa k oc, aSl rMsg ms a n c])
      (fun j => j ≤ k ∧ j = insK out x out.length) ?_ ?_
    · refine T_block ?_
      refine T_loop (fun j : Nat => [(0, .slice a n c), (7, .int .i64 n), (8, .int .i64 k), (3, .slice oa k oc), (4, .int .i64 k), (5, .int .i64 j)]) (fun _ => []) (fun _ => [aCells ad [.int .i64 x.fr, .int .i64 x.to, .int .i64 x.tag, .slice pa pn pc, .slice qa qn qc], aSl I x.t.sh pa pn pc, aSl I x.t.da qa qn qc, aSl rMsg out oa k oc, aSl rMsg ms a n c])
        (fun j => j ≤ k ∧ insK out x j = insK out x out.length) (fun j => j) k ⟨by omega, by rw [hol]⟩ ⟨rfl, rfl, rfl, rfl, rfl, rfl, trivial⟩ (fun w h => h) ?_
      rintro j ⟨hj, hjj⟩
      refine T_seq ?_
      by_cases hj0 : (0 : Int) < j
      rotate_left
      · have : j = 0 := by omega
        subst this
        refine T_seq (T_drawn hmix (.pure 0 <| .pure 1 <| .pure 2 <| .pure 3 <| .pure 4 <| .pure 5 <| .pure 6 <| .quiet 7 <| .pure 8 <| .pure 9 <| .pure 10 <| .quiet 11 <| .bar 12 <| .pure 13 <| .fin) (by decide +kernel) ?_)
        refine W_p rfl (q_mov rfl rfl) rfl rfl ?_
        refine W_p rfl (q_gt rfl rfl rfl) rfl rfl ?_
        refine W_p rfl (q_mov rfl rfl) rfl rfl ?_
        rw [decide_eq_false hj0]
        refine W_pskip rfl rfl rfl ?_
        refine W_pskip rfl rfl rfl ?_
        refine W_pskip rfl rfl rfl ?_
        refine W_pskip rfl rfl rfl ?_
        refine W_quietskip rfl rfl rfl ?_
        refine W_pskip rfl rfl rfl ?_
        refine W_pskip rfl rfl rfl ?_
        refine W_pskip rfl rfl rfl ?_
        refine W_quietskip rfl rfl rfl ?_
        refine W_barskip rfl rfl rfl ?_
        refine W_p rfl (q_pick rfl rfl rfl rfl) rfl rfl ?_
        refine W_next (fun _ => rfl) ?_
        refine T_cond rfl (fun hb => ?_) (fun hb => ?_)
        · cases hb
        · exact T_exit fun w h => ⟨0, ⟨by omega, by rw [← hjj]; rfl⟩, ⟨rfl, rfl, rfl, rfl, rfl, rfl, trivial⟩, h⟩
      refine T_msg (j - 1) (xs := out) (a := oa) (by repeat (first | with_reducible exact In.head | apply In.tail)) (by omega) fun y bd ra rn rc sa' sn sc hy hbd => ?_
      refine T_seq (T_drawn hmix (.pure 0 <| .pure 1 <| .pure 2 <| .pure 3 <| .pure 4 <| .pure 5 <| .pure 6 <| .quiet 7 <| .pure 8 <| .pure 9 <| .pure 10 <| .quiet 11 <| .bar 12 <| .pure 13 <| .fin) (by decide +kernel) ?_)
      refine W_p rfl (q_mov rfl rfl) rfl rfl ?_
      refine W_p rfl (q_gt rfl rfl rfl) rfl rfl ?_
      refine W_p rfl (q_mov rfl rfl) rfl rfl ?_
      rw [decide_eq_true hj0]
      refine W_p rfl (q_mov rfl rfl) rfl rfl ?_
      refine W_p rfl (q_mov rfl rfl) rfl rfl ?_
      refine W_p rfl (q_subE ((j - 1 : Nat) : Int) rfl rfl rfl (by omega) (by omega)) rfl rfl ?_
      refine W_p rfl (q_iaE rfl Try.underlying43 ty41 rfl rfl (by omega) (by assumption)) rfl rfl ?_
      refine W_a rfl (q_ldRA rfl ty41 rfl rfl (by repeat (first | with_reducible exact In.head | apply In.tail))) rfl rfl ?_
      refine W_p rfl (q_mov rfl rfl) rfl rfl ?_
      refine W_p rfl (q_mov rfl rfl) rfl rfl ?_
      refine W_p rfl (q_iaE rfl Try.underlying43 ty41 rfl rfl (by omega) (by assumption)) rfl rfl ?_
      refine W_a rfl (q_ldRA rfl ty41 rfl rfl (by repeat (first | with_reducible exact In.head | apply In.tail))) rfl rfl ?_
      refine W_b rfl (l_call rfl ent27 rfl (c_later y x ra sa' pa qa rn rc sn sc pn pc qn qc) (by repeat (first | with_reducible exact Pick.nil | apply Pick.cons (by repeat (first | with_reducible exact Sel.head | apply Sel.tail)))) (by repeat (first | with_reducible exact Ins.nil | refine Ins.cons (by repeat (first | with_reducible exact In.head | apply In.tail)) ?_)) (fun _ => (by repeat (first | with_reducible exact App.nil | apply App.cons))) (fun _ => (by repeat (first | with_reducible exact App.nil | apply App.cons)))) rfl rfl ?_; rintro g25 -
      refine W_p rfl (q_pick rfl rfl rfl rfl) rfl rfl ?_
      refine W_next (fun _ => rfl) ?_
      have ej : insK out x j = if later y x then insK out x (j - 1) else j := by
        obtain ⟨i, rfl⟩ : ∃ i, j = i + 1 := ⟨j - 1, by omega⟩
        rw [insK]
        rw [show i + 1 - 1 = i from rfl] at hy ⊢
        rw [hy]
      refine T_cond rfl (fun hb => ?_) (fun hb => ?_)
      rotate_left
      · have hb' : later y x = false := hb
        rw [hb', if_neg (by simp)] at ej
        exact T_exit fun w h => ⟨j, ⟨hj, by rw [← hjj, ej]⟩, ⟨rfl, rfl, rfl, rfl, rfl, rfl, trivial⟩, h.weak (List.nil_sublist _) (by simp)⟩
      have hb' : later y x = true := hb
      rw [hb', if_pos rfl] at ej
      refine T_skip_next (fun _ => rfl) ?_
      refine T_block ?_
      refine T_reg rfl ?_
      refine V_q (q_mov rfl rfl) rfl rfl ?_
      refine V_q (q_subE ((j - 1 : Nat) : Int) rfl rfl rfl (by omega) (by omega)) rfl rfl ?_
      refine V_q (q_asg rfl rfl) rfl rfl ?_
      refine V_nil ?_
      exact fun w h => ⟨j - 1, ⟨by omega, by omega, by rw [← ej, hjj]⟩, ⟨rfl, rfl, rfl, rfl, rfl, rfl, trivial⟩, h.weak (List.nil_sublist _) (by simp)⟩
    rintro j ⟨hj, hj2⟩
    refine T_pure (φ := k ≤ oc) (fun w h => (sl_len h (xs := out) (a := oa) (by repeat (first | with_reducible exact In.head | apply In.tail))).2.1) (fun hoc => ?_)
    refine T_ghost (fun w h => (h.take (xs := out) (a := oa) (j := j) (by repeat (first | with_reducible exact In.head | apply In.tail)) hj)) ?_
    refine T_ghost (fun w h => (show St C _ (aSl rMsg (out.drop j) (sa oa oc j 5) (k - j) (oc - j) :: _) w from h.drop (xs := out) (a := oa) (j := j) (by repeat (first | with_reducible exact In.head | apply In.tail)) hj)) ?_
    refine T_drawn hmix (.pure 1 <| .pure 2 <| .pure 3 <| .pure 5 <| .pure 6 <| .pure 7 <| .quiet 8 <| .pure 11 <| .pure 12 <| .pure 13 <| .both (.loud 0 <| .both (.loud 4 <| .loud 9 <| .loud 10 <| .loud 14 <| .pure 15 <| .fin) (.loud 9 <| .loud 4 <| .loud 10 <| .loud 14 <| .pure 15 <| .fin)) (.loud 9 <| .loud 0 <| .loud 4 <| .loud 10 <| .loud 14 <| .pure 15 <| .fin)) (by decide +kernel) ?_
    refine W_p rfl (q_mov rfl rfl) rfl rfl ?_
    refine W_p rfl (q_mov rfl rfl) rfl rfl ?_
    refine W_p rfl (q_slH rfl Try.underlying43 ty41 rfl rfl (i := j) (by omega)) rfl rfl ?_
    refine W_p rfl (q_mov rfl rfl) rfl rfl ?_
    refine W_p rfl (q_mov rfl rfl) rfl rfl ?_
    refine W_p rfl (q_iaE rfl Try.underlying43 ty41 rfl rfl hkn had) rfl rfl ?_
    refine W_a rfl (q_ldRA rfl ty41 rfl rfl (by repeat (first | with_reducible exact In.head | apply In.tail))) rfl rfl ?_
    refine W_p rfl (q_mov rfl rfl) rfl rfl ?_
    refine W_p rfl (q_mov rfl rfl) rfl rfl ?_
    refine W_p rfl (q_slL rfl Try.underlying43 ty41 rfl rfl hj) rfl rfl ?_
    refine W_both ?_ ?_
    · refine W_l rfl (l_bsO [] rfl Try.underlying43 ty41 tz41 (by decide) rfl rfl rfl (by repeat (first | exact FillL.nil | apply FillL.cons rfl rfl (by repeat (first | exact PutL.z | apply PutL.s | apply PutL.t)))) rfl (by decide)) (fun _ _ h => by repeat (first | exact trivial | refine ⟨?_, h.weak (by repeat (first | exact List.Sublist.refl _ | exact List.nil_sublist _ | with_reducible apply List.Sublist.cons_cons | apply List.Sublist.cons)) (by simp +contextual)⟩)) rfl rfl ?_; rintro g29 -
      refine W_both ?_ ?_
      · refine W_l rfl (l_appS rMsg rfl Try.underlying43 ty41 tz41 tb41 rfl rfl (by decide) rfl rfl (xs := out.take j) (by repeat (first | with_reducible exact In.head | apply In.tail)) (fun _ _ => (by repeat (first | with_reducible exact Put.head | apply Put.tail))) (by unfold maxLen; omega) (by omega)) (fun _ _ h => by repeat (first | exact trivial | refine ⟨?_, h.weak (by repeat (first | exact List.Sublist.refl _ | exact List.nil_sublist _ | with_reducible apply List.Sublist.cons_cons | apply List.Sublist.cons)) (by simp +contextual)⟩)) rfl rfl ?_; rintro ⟨news, v33⟩ -
        refine W_l rfl (l_bs [.int .i64 0, .int .i64 0, .int .i64 0, .slice none 0 0, .slice none 0 0] rfl Try.underlying43 ty41 tz41 (by decide) rfl rfl rfl (by repeat (first | exact FillL.nil | apply FillL.cons rfl rfl (by repeat (first | exact PutL.z | apply PutL.s | apply PutL.t))))) (fun _ _ h => by repeat (first | exact trivial | refine ⟨?_, h.weak (by repeat (first | exact List.Sublist.refl _ | exact List.nil_sublist _ | with_reducible apply List.Sublist.cons_cons | apply List.Sublist.cons)) (by simp +contextual)⟩)) rfl rfl ?_; rintro g38 -
        refine W_l rfl (l_appB rfl Try.underlying43 ty41 tz41 tb41 rfl (by decide) rfl rfl (by repeat (first | with_reducible exact Sel.head | apply Sel.tail)) (fun _ => (by repeat (first | with_reducible exact Put.head | apply Put.tail))) rfl rfl (by unfold maxLen; omega) (by omega)) (fun _ _ h => by repeat (first | exact trivial | refine ⟨?_, h.weak (by repeat (first | exact List.Sublist.refl _ | exact List.nil_sublist _ | with_reducible apply List.Sublist.cons_cons | apply List.Sublist.cons)) (by simp +contextual)⟩)) rfl rfl ?_; rintro v39 -
        refine W_l rfl (l_appS rMsg rfl Try.underlying43 ty41 tz41 tb41 rfl rfl (by decide) rfl rfl (xs := out.drop j) (by repeat (first | with_reducible exact In.head | apply In.tail)) (fun _ _ => (by repeat (first | with_reducible exact Put.head | apply Put.tail))) (by unfold maxLen; omega) (by omega)) (fun _ _ h => by repeat (first | exact trivial | refine ⟨?_, h.weak (by repeat (first | exact List.Sublist.refl _ | exact List.nil_sublist _ | with_reducible apply List.Sublist.cons_cons | apply List.Sublist.cons)) (by simp +contextual)⟩)) rfl rfl ?_; rintro ⟨news', v43⟩ -
        refine W_p rfl (q_asg rfl rfl) rfl rfl ?_ -- t3 := t43
        refine W_fin ?_
        intro w h
        have h1 := h.know (aEv rMsg (out.take j ++ [x] ++ out.drop j) (news ++ [Value.int .i64 x.fr, Value.int .i64 x.to, Value.int .i64 x.tag, Value.slice pa pn pc, Value.slice qa qn qc] ++ news'))
          ((EvP.snoc (show EvP rMsg _ _ _ _ from h.atom (A := aEv rMsg (out.take j) news) (by repeat (first | with_reducible exact In.head | apply In.tail))) (show rMsg.p _ _ x [Value.int .i64 x.fr, Value.int .i64 x.to, Value.int .i64 x.tag, Value.slice pa pn pc, Value.slice qa qn qc] from ⟨pa, pn, pc, qa, qn, qc, rfl, h.atom (A := aSl I x.t.sh pa pn pc) (by repeat (first | with_reducible exact In.head | apply In.tail)), h.atom (A := aSl I x.t.da qa qn qc) (by repeat (first | with_reducible exact In.head | apply In.tail))⟩)).app (show EvP rMsg _ _ _ _ from h.atom (A := aEv rMsg (out.drop j) news') (by repeat (first | with_reducible exact In.head | apply In.tail))))
        obtain ⟨a', c', hv, h2⟩ := h1.leave (k := 5) (v := v43) (n := 0 + j + 1 + (k - j)) (cs := [] ++ news ++ [Value.int .i64 x.fr, Value.int .i64 x.to, Value.int .i64 x.tag, Value.slice pa pn pc, Value.slice qa qn qc] ++ news') rMsg rfl (by decide) (by repeat (first | with_reducible exact Sel.head | apply Sel.tail)) In.head
        subst hv
        have e : 0 + j + 1 + (k - j) = k + 1 := by omega
        rw [e] at h2 ⊢
        have hs : out.take j ++ [x] ++ out.drop j = sorted (ms.take (k + 1)) := by rw [sorted_succ hx, ho, ins, ← hj2]
        rw [hs] at h2
        exact ⟨(a', c'), trivial, ⟨rfl, rfl, rfl, rfl, trivial⟩, h2.weak (List.nil_sublist _) (by simp)⟩
      · refine W_l rfl (l_bs [.int .i64 0, .int .i64 0, .int .i64 0, .slice none 0 0, .slice none 0 0] rfl Try.underlying43 ty41 tz41 (by decide) rfl rfl rfl (by repeat (first | exact FillL.nil | apply FillL.cons rfl rfl (by repeat (first | exact PutL.z | apply PutL.s | apply PutL.t))))) (fun _ _ h => by repeat (first | exact trivial | refine ⟨?_, h.weak (by repeat (first | exact List.Sublist.refl _ | exact List.nil_sublist _ | with_reducible apply List.Sublist.cons_cons | apply List.Sublist.cons)) (by simp +contextual)⟩)) rfl rfl ?_; rintro g38 -
        refine W_l rfl (l_appS rMsg rfl Try.underlying43 ty41 tz41 tb41 rfl rfl (by decide) rfl rfl (xs := out.take j) (by repeat (first | with_reducible exact In.head | apply In.tail)) (fun _ _ => (by repeat (first | with_reducible exact Put.head | apply Put.tail))) (by unfold maxLen; omega) (by omega)) (fun _ _ h => by repeat (first | exact trivial | refine ⟨?_, h.weak (by repeat (first | exact List.Sublist.refl _ | exact List.nil_sublist _ | with_reducible apply List.Sublist.cons_cons | apply List.Sublist.cons)) (by simp +contextual)⟩)) rfl rfl ?_; rintro ⟨news, v33⟩ -
        refine W_l rfl (l_appB rfl Try.underlying43 ty41 tz41 tb41 rfl (by decide) rfl rfl (by repeat (first | with_reducible exact Sel.head | apply Sel.tail)) (fun _ => (by repeat (first | with_reducible exact Put.head | apply Put.tail))) rfl rfl (by unfold maxLen; omega) (by omega)) (fun _ _ h => by repeat (first | exact trivial | refine ⟨?_, h.weak (by repeat (first | exact List.Sublist.refl _ | exact List.nil_sublist _ | with_reducible apply List.Sublist.cons_cons | apply List.Sublist.cons)) (by simp +contextual)⟩)) rfl rfl ?_; rintro v39 -
        refine W_l rfl (l_appS rMsg rfl Try.underlying43 ty41 tz41 tb41 rfl rfl (by decide) rfl rfl (xs := out.drop j) (by repeat (first | with_reducible exact In.head | apply In.tail)) (fun _ _ => (by repeat (first | with_reducible exact Put.head | apply Put.tail))) (by unfold maxLen; omega) (by omega)) (fun _ _ h => by repeat (first | exact trivial | refine ⟨?_, h.weak (by repeat (first | exact List.Sublist.refl _ | exact List.nil_sublist _ | with_reducible apply List.Sublist.cons_cons | apply List.Sublist.cons)) (by simp +contextual)⟩)) rfl rfl ?_; rintro ⟨news', v43⟩ -
        refine W_p rfl (q_asg rfl rfl) rfl rfl ?_ -- t3 := t43
        refine W_fin ?_
        intro w h
        have h1 := h.know (aEv rMsg (out.take j ++ [x] ++ out.drop j) (news ++ [Value.int .i64 x.fr, Value.int .i64 x.to, Value.int .i64 x.tag, Value.slice pa pn pc, Value.slice qa qn qc] ++ news'))
          ((EvP.snoc (show EvP rMsg _ _ _ _ from h.atom (A := aEv rMsg (out.take j) news) (by repeat (first | with_reducible exact In.head | apply In.tail))) (show rMsg.p _ _ x [Value.int .i64 x.fr, Value.int .i64 x.to, Value.int .i64 x.tag, Value.slice pa pn pc, Value.slice qa qn qc] from ⟨pa, pn, pc, qa, qn, qc, rfl, h.atom (A := aSl I x.t.sh pa pn pc) (by repeat (first | with_reducible exact In.head | apply In.tail)), h.atom (A := aSl I x.t.da qa qn qc) (by repeat (first | with_reducible exact In.head | apply In.tail))⟩)).app (show EvP rMsg _ _ _ _ from h.atom (A := aEv rMsg (out.drop j) news') (by repeat (first | with_reducible exact In.head | apply In.tail))))
        obtain ⟨a', c', hv, h2⟩ := h1.leave (k := 5) (v := v43) (n := 0 + j + 1 + (k - j)) (cs := [] ++ news ++ [Value.int .i64 x.fr, Value.int .i64 x.to, Value.int .i64 x.tag, Value.slice pa pn pc, Value.slice qa qn qc] ++ news') rMsg rfl (by decide) (by repeat (first | with_reducible exact Sel.head | apply Sel.tail)) In.head
        subst hv
        have e : 0 + j + 1 + (k - j) = k + 1 := by omega
        rw [e] at h2 ⊢
        have hs : out.take j ++ [x] ++ out.drop j = sorted (ms.take (k + 1)) := by rw [sorted_succ hx, ho, ins, ← hj2]
        rw [hs] at h2
        exact ⟨(a', c'), trivial, ⟨rfl, rfl, rfl, rfl, trivial⟩, h2.weak (List.nil_sublist _) (by simp)⟩
    · refine W_l rfl (l_bs [.int .i64 0, .int .i64 0, .int .i64 0, .slice none 0 0, .slice none 0 0] rfl Try.underlying43 ty41 tz41 (by decide) rfl rfl rfl (by repeat (first | exact FillL.nil | apply FillL.cons rfl rfl (by repeat (first | exact PutL.z | apply PutL.s | apply PutL.t))))) (fun _ _ h => by repeat (first | exact trivial | refine ⟨?_, h.weak (by repeat (first | exact List.Sublist.refl _ | exact List.nil_sublist _ | with_reducible apply List.Sublist.cons_cons | apply List.Sublist.cons)) (by simp +contextual)⟩)) rfl rfl ?_; rintro g38 -
      refine W_l rfl (l_bsO [] rfl Try.underlying43 ty41 tz41 (by decide) rfl rfl rfl (by repeat (first | exact FillL.nil | apply FillL.cons rfl rfl (by repeat (first | exact PutL.z | apply PutL.s | apply PutL.t)))) rfl (by decide)) (fun _ _ h => by repeat (first | exact trivial | refine ⟨?_, h.weak (by repeat (first | exact List.Sublist.refl _ | exact List.nil_sublist _ | with_reducible apply List.Sublist.cons_cons | apply List.Sublist.cons)) (by simp +contextual)⟩)) rfl rfl ?_; rintro g29 -
      refine W_l rfl (l_appS rMsg rfl Try.underlying43 ty41 tz41 tb41 rfl rfl (by decide) rfl rfl (xs := out.take j) (by repeat (first | with_reducible exact In.head | apply In.tail)) (fun _ _ => (by repeat (first | with_reducible exact Put.head | apply Put.tail))) (by unfold maxLen; omega) (by omega)) (fun _ _ h => by repeat (first | exact trivial | refine ⟨?_, h.weak (by repeat (first | exact List.Sublist.refl _ | exact List.nil_sublist _ | with_reducible apply List.Sublist.cons_cons | apply List.Sublist.cons)) (by simp +contextual)⟩)) rfl rfl ?_; rintro ⟨news, v33⟩ -
      refine W_l rfl (l_appB rfl Try.underlying43 ty41 tz41 tb41 rfl (by decide) rfl rfl (by repeat (first | with_reducible exact Sel.head | apply Sel.tail)) (fun _ => (by repeat (first | with_reducible exact Put.head | apply Put.tail))) rfl rfl (by unfold maxLen; omega) (by omega)) (fun _ _ h => by repeat (first | exact trivial | refine ⟨?_, h.weak (by repeat (first | exact List.Sublist.refl _ | exact List.nil_sublist _ | with_reducible apply List.Sublist.cons_cons | apply List.Sublist.cons)) (by simp +contextual)⟩)) rfl rfl ?_; rintro v39 -
      refine W_l rfl (l_appS rMsg rfl Try.underlying43 ty41 tz41 tb41 rfl rfl (by decide) rfl rfl (xs := out.drop j) (by repeat (first | with_reducible exact In.head | apply In.tail)) (fun _ _ => (by repeat (first | with_reducible exact Put.head | apply Put.tail))) (by unfold maxLen; omega) (by omega)) (fun _ _ h => by repeat (first | exact trivial | refine ⟨?_, h.weak (by repeat (first | exact List.Sublist.refl _ | exact List.nil_sublist _ | with_reducible apply List.Sublist.cons_cons | apply List.Sublist.cons)) (by simp +contextual)⟩)) rfl rfl ?_; rintro ⟨news', v43⟩ -
      refine W_p rfl (q_asg rfl rfl) rfl rfl ?_ -- t3 := t43
      refine W_fin ?_
      intro w h
      have h1 := h.know (aEv rMsg (out.take j ++ [x] ++ out.drop j) (news ++ [Value.int .i64 x.fr, Value.int .i64 x.to, Value.int .i64 x.tag, Value.slice pa pn pc, Value.slice qa qn qc] ++ news'))
        ((EvP.snoc (show EvP rMsg _ _ _ _ from h.atom (A := aEv rMsg (out.take j) news) (by repeat (first | with_reducible exact In.head | apply In.tail))) (show rMsg.p _ _ x [Value.int .i64 x.fr, Value.int .i64 x.to, Value.int .i64 x.tag, Value.slice pa pn pc, Value.slice qa qn qc] from ⟨pa, pn, pc, qa, qn, qc, rfl, h.atom (A := aSl I x.t.sh pa pn pc) (by repeat (first | with_reducible exact In.head | apply In.tail)), h.atom (A := aSl I x.t.da qa qn qc) (by repeat (first | with_reducible exact In.head | apply In.tail))⟩)).app (show EvP rMsg _ _ _ _ from h.atom (A := aEv rMsg (out.drop j) news') (by repeat (first | with_reducible exact In.head | apply In.tail))))
      obtain ⟨a', c', hv, h2⟩ := h1.leave (k := 5) (v := v43) (n := 0 + j + 1 + (k - j)) (cs := [] ++ news ++ [Value.int .i64 x.fr, Value.int .i64 x.to, Value.int .i64 x.tag, Value.slice pa pn pc, Value.slice qa qn qc] ++ news') rMsg rfl (by decide) (by repeat (first | with_reducible exact Sel.head | apply Sel.tail)) In.head
      subst hv
      have e : 0 + j + 1 + (k - j) = k + 1 := by omega
      rw [e] at h2 ⊢
      have hs : out.take j ++ [x] ++ out.drop j = sorted (ms.take (k + 1)) := by rw [sorted_succ hx, ho, ins, ← hj2]
      rw [hs] at h2
      exact ⟨(a', c'), trivial, ⟨rfl, rfl, rfl, rfl, trivial⟩, h2.weak (List.nil_sublist _) (by simp)⟩
  rintro ⟨a', c'⟩ -
  refine T_reg rfl ?_
  refine V_q (q_addI rfl rfl rfl (by omega)) rfl rfl ?_
  refine V_q (q_mov rfl rfl) rfl rfl ?_
  refine V_nil ?_
  exact fun w h => ⟨(k + 1, a', c'), ⟨by show n - (k + 1) < n - k; omega, by show k + 1 ≤ n; omega⟩, ⟨rfl, rfl, rfl, rfl, trivial⟩, h⟩
end Go.Proofs.Ytgbhegmhbeekpaa
