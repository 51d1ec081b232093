/-
  The three laws' own code.
-/
import Derived.Test.YtgbhegmhbeekpaaB12
namespace Go.Proofs.Ytgbhegmhbeekpaa
open Go

theorem ask_p (M : List Nat) (w : World) (x : Ask) : rAsk.p M w x [.int .i64 x.kind, .int .i64 x.fr, .int .i64 x.to, .int .i64 x.tag, .int .i64 x.n] := rfl

theorem St.snocAsk {C : Ctx} {own rest : List Res} {ats : List Atom} {w : World} {e n : Nat} {v : Value} {xs : List Ask} {cs : List Value} {a b c d f : Int} (h : St C own ats w) (hs : Sel own (rOwn e 5 v n (cs ++ [.int .i64 a, .int .i64 b, .int .i64 c, .int .i64 d, .int .i64 f])) rest) (he : In (aEv rAsk xs cs) ats) :
    ∃ xs' cs', St C (rOwn e 5 v n cs' :: rest) (aEv rAsk xs' cs' :: ats) w := by
  have h0 := (h.know (aEv rAsk (xs ++ [⟨a, b, c, d, f⟩]) (cs ++ [.int .i64 a, .int .i64 b, .int .i64 c, .int .i64 d, .int .i64 f])) (EvP.snoc (show EvP rAsk _ _ _ _ from h.atom he) (ask_p _ _ ⟨a, b, c, d, f⟩))).perm hs.perm
  exact ⟨_, _, h0⟩
theorem ev3 (M : List Nat) (w : World) (x y z : Ask) : EvP rAsk M w [x, y, z] [.int .i64 x.kind, .int .i64 x.fr, .int .i64 x.to, .int .i64 x.tag, .int .i64 x.n, .int .i64 y.kind, .int .i64 y.fr, .int .i64 y.to, .int .i64 y.tag, .int .i64 y.n, .int .i64 z.kind, .int .i64 z.fr, .int .i64 z.to, .int .i64 z.tag, .int .i64 z.n] :=
  (((EvP.nil rAsk M w).snoc (ask_p M w x)).snoc (ask_p M w y)).snoc (ask_p M w z)

theorem c_BagNumbers : Con Try.prog 3 #[] [] []
    (fun _ : Unit => True) (fun _ => .bool true) (fun _ => []) (fun _ => []) := by
  refine con_of (n := 43) Try.func3 rfl rfl rfl (by simp) ?_
  intro C hC
  refine T_seq (T_reg rfl ?_)
  refine V_q (q_asg rfl rfl) rfl rfl ?_
  refine V_next (fun _ => rfl) ?_
  refine T_seq ?_
  refine T_seq (T_reg rfl ?_)
  refine V_q (q_asg rfl rfl) rfl rfl ?_
  refine V_next (fun _ => rfl) ?_
  refine T_block ?_
  refine T_loop (fun k : Nat => [(1, .int .i64 k)]) (fun _ => []) (fun _ => []) (fun k => k ≤ 40) (fun k => 40 - k) 0 (by decide) ⟨rfl, trivial⟩ (fun w h => h) ?_
  intro k hk
  refine T_seq ?_
  refine T_seq (T_reg rfl ?_)
  refine V_q (q_mov rfl rfl) rfl rfl ?_
  refine V_q (q_lt rfl rfl rfl) rfl rfl ?_
  refine V_next (fun _ => rfl) ?_
  refine T_cond rfl (fun hb => ?_) (fun hb => ?_)
  rotate_left
  · refine T_exit_next (fun _ => rfl) ?_
    refine T_seq (T_reg rfl ?_)
    refine V_q (q_buildS rfl pl24 tz24 rfl rfl (by repeat (first | exact FillL.nil | apply FillL.cons rfl rfl (by repeat (first | exact PutL.z | apply PutL.s | apply PutL.t))))) rfl rfl ?_
    refine V_q (q_buildS rfl pl24 tz24 rfl rfl (by repeat (first | exact FillL.nil | apply FillL.cons rfl rfl (by repeat (first | exact PutL.z | apply PutL.s | apply PutL.t))))) rfl rfl ?_
    refine V_q (q_buildS rfl pl24 tz24 rfl rfl (by repeat (first | exact FillL.nil | apply FillL.cons rfl rfl (by repeat (first | exact PutL.z | apply PutL.s | apply PutL.t))))) rfl rfl ?_
    refine V_l (l_bs [.int .i64 0, .int .i64 0, .int .i64 0, .int .i64 0, .int .i64 0, .int .i64 0, .int .i64 0, .int .i64 0, .int .i64 0, .int .i64 0, .int .i64 0, .int .i64 0, .int .i64 0, .int .i64 0, .int .i64 0] rfl Try.underlying22 ty24 tz24 (by decide) rfl rfl rfl (by repeat (first | exact FillL.nil | apply FillL.cons rfl rfl (by repeat (first | exact PutL.z | apply PutL.s | apply PutL.t))))) rfl rfl ?_; rintro g38 -
    refine V_ghost (fun w h => h.sealB (n := 3) rAsk (cs := [.int .i64 0, .int .i64 (-9223372036854775808), .int .i64 9223372036854775807, .int .i64 (-5), .int .i64 0, .int .i64 0, .int .i64 (-9223372036854775808), .int .i64 9223372036854775807, .int .i64 (-6), .int .i64 0, .int .i64 2, .int .i64 (-9223372036854775808), .int .i64 9223372036854775807, .int .i64 (-5), .int .i64 0]) Sel.head (by decide) rfl (by decide) (ev3 _ _ ⟨0, -9223372036854775808, 9223372036854775807, -5, 0⟩ ⟨0, -9223372036854775808, 9223372036854775807, -6, 0⟩ ⟨2, -9223372036854775808, 9223372036854775807, -5, 0⟩)) ?_
    refine V_l (l_call rfl ent6 rfl (c_play _ _ 3 3) (by repeat (first | with_reducible exact Pick.nil | apply Pick.cons (by repeat (first | with_reducible exact Sel.head | apply Sel.tail)))) (by repeat (first | with_reducible exact Ins.nil | refine Ins.cons (by repeat (first | with_reducible exact In.head | apply In.tail)) ?_)) (fun _ => (by repeat (first | with_reducible exact App.nil | apply App.cons))) (fun _ => (by repeat (first | with_reducible exact App.nil | apply App.cons)))) rfl rfl ?_; rintro g39 -
    refine V_q (q_mov rfl rfl) rfl rfl ?_
    refine V_wantl (l_call rfl ent7 rfl (c_known) (by repeat (first | with_reducible exact Pick.nil | apply Pick.cons (by repeat (first | with_reducible exact Sel.head | apply Sel.tail)))) (by repeat (first | with_reducible exact Ins.nil | refine Ins.cons (by repeat (first | with_reducible exact In.head | apply In.tail)) ?_)) (fun _ => (by repeat (first | with_reducible exact App.nil | apply App.cons))) (fun _ => (by repeat (first | with_reducible exact App.nil | apply App.cons)))) rfl rfl ?_; rintro g41 -
    refine V_q (q_pick rfl rfl rfl rfl) rfl rfl ?_
    refine V_q (q_asg rfl rfl) rfl rfl ?_
    refine V_next (fun _ => rfl) ?_
    exact T_ret fun w h => ⟨_, res_1 rfl, (), trivial, rfl, h.weak (List.nil_sublist _) (by simp)⟩
  have hk40 : k < 40 := by
    have : (k : Int) < 40 := by simpa using hb
    omega
  clear hb
  refine T_skip_next (fun _ => rfl) ?_
  refine T_seq ?_
  refine T_block ?_
  refine T_seq (T_reg rfl ?_)
  refine V_q (q_asg rfl rfl) rfl rfl ?_
  refine V_next (fun _ => rfl) ?_
  refine T_ghost (fun w h => h.rowNil 24 5) ?_
  refine T_seq ?_
  refine T_seq (T_reg rfl ?_)
  refine V_q (q_asg rfl rfl) rfl rfl ?_
  refine V_next (fun _ => rfl) ?_
  refine T_block ?_
  refine T_loop (fun y : Nat × List Ask × Value × List Value => [(1, .int .i64 k), (2, y.2.2.1), (3, .int .i64 y.1)]) (fun y => [rOwn 24 5 y.2.2.1 y.1 y.2.2.2]) (fun y => [aEv rAsk y.2.1 y.2.2.2]) (fun y => y.1 ≤ 60) (fun y => 60 - y.1) (0, [], .slice none 0 0, []) (by decide) ⟨rfl, rfl, rfl, trivial⟩ (fun w h => h.know (aEv rAsk [] []) (EvP.nil _ _ _)) ?_
  rintro ⟨i, xs, v, cs⟩ hi
  replace hi : i ≤ 60 := hi
  refine T_seq ?_
  refine T_seq (T_reg rfl ?_)
  refine V_q (q_mov rfl rfl) rfl rfl ?_
  refine V_q (q_lt rfl rfl rfl) rfl rfl ?_
  refine V_next (fun _ => rfl) ?_
  refine T_cond rfl (fun hb => ?_) (fun hb => ?_)
  rotate_left
  · refine T_exit_next (fun _ => rfl) ?_
    refine T_seal rAsk (k := 5) rfl (by decide) (xs := xs) (by repeat (first | with_reducible exact Sel.head | apply Sel.tail)) (by repeat (first | with_reducible exact In.head | apply In.tail)) fun a c hv => ?_
    replace hv : v = .slice a i c := hv
    subst hv
    refine T_seq (T_reg rfl ?_)
    refine V_q (q_mov rfl rfl) rfl rfl ?_
    refine V_l (l_call rfl ent6 rfl (c_play xs a i c) (by repeat (first | with_reducible exact Pick.nil | apply Pick.cons (by repeat (first | with_reducible exact Sel.head | apply Sel.tail)))) (by repeat (first | with_reducible exact Ins.nil | refine Ins.cons (by repeat (first | with_reducible exact In.head | apply In.tail)) ?_)) (fun _ => (by repeat (first | with_reducible exact App.nil | apply App.cons))) (fun _ => (by repeat (first | with_reducible exact App.nil | apply App.cons)))) rfl rfl ?_; rintro g33 -
    refine V_q (q_not rfl rfl) rfl rfl ?_
    refine V_next (fun _ => rfl) ?_
    refine T_cond rfl (fun hb => ?_) (fun hb => ?_)
    · cases hb
    refine T_skip_next (fun _ => rfl) ?_
    refine T_reg rfl ?_
    refine V_q (q_mov rfl rfl) rfl rfl ?_
    refine V_q (q_addI rfl rfl rfl (by omega)) rfl rfl ?_
    refine V_q (q_asg rfl rfl) rfl rfl ?_
    refine V_nil ?_
    exact fun w h => ⟨k + 1, ⟨by omega, by omega⟩, ⟨rfl, trivial⟩, h.weak (List.nil_sublist _) (by simp)⟩
  have hi60 : i < 60 := by
    have : (i : Int) < 60 := by simpa using hb
    omega
  clear hb
  refine T_skip_next (fun _ => rfl) ?_
  refine T_seq ?_
  refine T_block ?_
  refine T_reg rfl ?_
  refine V_q (q_mov rfl rfl) rfl rfl ?_
  refine V_q (q_mov rfl rfl) rfl rfl ?_
  refine V_q (q_mov rfl rfl) rfl rfl ?_
  refine V_q (q_mul rfl rfl rfl) rfl rfl ?_
  refine V_q (q_mov rfl rfl) rfl rfl ?_
  refine V_q (q_add rfl rfl rfl) rfl rfl ?_
  refine V_q (q_rem rfl rfl rfl (by omega)) rfl rfl ?_
  refine V_q (q_mov rfl rfl) rfl rfl ?_
  refine V_q (q_mul rfl rfl rfl) rfl rfl ?_
  refine V_q (q_rem rfl rfl rfl (by omega)) rfl rfl ?_
  refine V_q (q_mov rfl rfl) rfl rfl ?_
  refine V_q (q_mov rfl rfl) rfl rfl ?_
  refine V_q (q_add rfl rfl rfl) rfl rfl ?_
  refine V_q (q_rem rfl rfl rfl (by omega)) rfl rfl ?_
  refine V_q (q_mov rfl rfl) rfl rfl ?_
  refine V_q (q_rem rfl rfl rfl (by omega)) rfl rfl ?_
  refine V_q (q_mov rfl rfl) rfl rfl ?_
  refine V_q (q_buildS rfl pl24 tz24 rfl rfl (by repeat (first | exact FillL.nil | apply FillL.cons rfl rfl (by repeat (first | exact PutL.z | apply PutL.s | apply PutL.t))))) rfl rfl ?_
  refine V_l (l_bs [.int .i64 0, .int .i64 0, .int .i64 0, .int .i64 0, .int .i64 0] rfl Try.underlying22 ty24 tz24 (by decide) rfl rfl rfl (by repeat (first | exact FillL.nil | apply FillL.cons rfl rfl (by repeat (first | exact PutL.z | apply PutL.s | apply PutL.t))))) rfl rfl ?_; rintro g30 -
  refine V_l (l_appB rfl Try.underlying22 ty24 tz24 tb24 rfl (by decide) rfl rfl (by repeat (first | with_reducible exact Sel.head | apply Sel.tail)) (fun _ => (by repeat (first | with_reducible exact Put.head | apply Put.tail))) rfl rfl (by simp [maxLen]; omega) (by simp; omega)) rfl rfl ?_; rintro v31 -
  refine V_q (q_asg rfl rfl) rfl rfl ?_
  refine V_next (fun _ => rfl) ?_
  refine T_reg rfl ?_
  refine V_q (q_mov rfl rfl) rfl rfl ?_
  refine V_q (q_addI rfl rfl rfl (by omega)) rfl rfl ?_
  refine V_q (q_asg rfl rfl) rfl rfl ?_
  refine V_nil ?_
  intro w h
  obtain ⟨xs', cs', h1⟩ := h.snocAsk (v := v31) (n := i + 1) (xs := xs) (cs := cs) (by repeat (first | with_reducible exact Sel.head | apply Sel.tail)) (by repeat (first | with_reducible exact In.head | apply In.tail))
  exact ⟨(i + 1, xs', v31, cs'), ⟨by show 60 - (i + 1) < 60 - i; omega, by show i + 1 ≤ 60; omega⟩, ⟨rfl, rfl, rfl, trivial⟩, h1.pick (by repeat (first | with_reducible exact Pick.nil | apply Pick.cons (by repeat (first | with_reducible exact Sel.head | apply Sel.tail)))) (by simp)⟩

theorem c_BagPlays (asks : List Ask) (L : List Int) (a b : Option Addr) (n c m d : Nat) : Con Try.prog 4 #[.slice a n c, .slice b m d] [] [aSl rAsk asks a n c, aSl I L b m d]
    (fun _ : Unit => True) (fun _ => .bool true) (fun _ => []) (fun _ => []) := by
  refine con_of (n := 45) Try.func4 rfl rfl rfl (by simp) ?_
  intro C hC
  refine T_pure (φ := m = L.length) (fun w h => (sl_len h (xs := L) (a := b) (by repeat (first | with_reducible exact In.head | apply In.tail))).1) (fun hm => ?_)
  refine T_seq (T_reg rfl ?_)
  refine V_q (q_asg rfl rfl) rfl rfl ?_
  refine V_next (fun _ => rfl) ?_
  refine T_seq (T_reg rfl ?_)
  refine V_q (q_mov rfl rfl) rfl rfl ?_
  refine V_q (q_buildS rfl pl30 tz30 rfl rfl (by repeat (first | exact FillL.nil | apply FillL.cons rfl rfl (by repeat (first | exact PutL.z | apply PutL.s | apply PutL.t))))) rfl rfl ?_
  refine V_l (l_boxA rfl rfl) rfl rfl ?_; rintro g9 -
  refine V_q (q_asg rfl rfl) rfl rfl ?_
  refine V_next (fun _ => rfl) ?_
  refine T_seq (T_reg rfl ?_)
  refine V_q (q_asg rfl rfl) rfl rfl ?_
  refine V_next (fun _ => rfl) ?_
  refine T_ghost (fun w h => h.rowNil 24 5) ?_
  refine T_seq ?_
  refine T_block ?_
  refine T_loop (fun y : Nat × List Ask × Value × List Value × Nat => [(0, .slice a n c), (1, .slice b m d), (5, .pointer (some ⟨g9, 0, none⟩)), (6, y.2.2.1)]) (fun y => [rOwn 24 5 y.2.2.1 y.1 y.2.2.2.1, rBlk g9 30 [.slice b m d, .int .i64 y.2.2.2.2]]) (fun y => [aEv rAsk y.2.1 y.2.2.2.1, aSl rAsk asks a n c, aSl I L b m d]) (fun y => y.1 ≤ 60) (fun y => 60 - y.1) (0, [], .slice none 0 0, [], 0) (by decide) ⟨rfl, rfl, rfl, rfl, trivial⟩ (fun w h => h.know (aEv rAsk [] []) (EvP.nil _ _ _)) ?_
  rintro ⟨i, xs, v, cs, at_⟩ hi
  replace hi : i ≤ 60 := hi
  refine T_slice (e := 24) (k := 5) (by repeat (first | with_reducible exact Sel.head | apply Sel.tail)) fun sa' sc hv => ?_
  replace hv : v = .slice sa' i sc := hv
  subst hv
  refine T_seq ?_
  refine T_seq (T_reg rfl ?_)
  refine V_q (q_mov rfl rfl) rfl rfl ?_
  refine V_q (q_len rfl Try.underlying22 rfl) rfl rfl ?_
  refine V_q (q_lt rfl rfl rfl) rfl rfl ?_
  refine V_q (q_mov rfl rfl) rfl rfl ?_
  by_cases h60 : (i : Int) < 60
  rotate_left
  · rw [decide_eq_false h60]
    refine V_skip rfl rfl ?_
    refine V_skip rfl rfl ?_
    refine V_skip rfl rfl ?_
    refine V_skip rfl rfl ?_
    refine V_skip rfl rfl ?_
    refine V_skip rfl rfl ?_
    refine V_skip rfl rfl ?_
    refine V_q (q_pick rfl rfl rfl rfl) rfl rfl ?_
    refine V_next (fun _ => rfl) ?_
    refine T_cond rfl (fun hb => ?_) (fun hb => ?_)
    · cases hb
    refine T_exit_next (fun _ => rfl) ?_
    refine T_seal rAsk (k := 5) rfl (by decide) (xs := xs) (by repeat (first | with_reducible exact Sel.head | apply Sel.tail)) (by repeat (first | with_reducible exact In.head | apply In.tail)) fun a' c' hv => ?_
    injection hv with e1 e2 e3
    subst e1; subst e3
    refine T_seq (T_reg rfl ?_)
    refine V_q (q_mov rfl rfl) rfl rfl ?_
    refine V_l (l_call rfl ent6 rfl (c_play asks a n c) (by repeat (first | with_reducible exact Pick.nil | apply Pick.cons (by repeat (first | with_reducible exact Sel.head | apply Sel.tail)))) (by repeat (first | with_reducible exact Ins.nil | refine Ins.cons (by repeat (first | with_reducible exact In.head | apply In.tail)) ?_)) (fun _ => (by repeat (first | with_reducible exact App.nil | apply App.cons))) (fun _ => (by repeat (first | with_reducible exact App.nil | apply App.cons)))) rfl rfl ?_; rintro g37 -
    refine V_q (q_mov rfl rfl) rfl rfl ?_
    refine V_want (q_mov rfl rfl) rfl rfl ?_
    refine V_wantl (l_call rfl ent6 rfl (c_play xs sa' i sc) (by repeat (first | with_reducible exact Pick.nil | apply Pick.cons (by repeat (first | with_reducible exact Sel.head | apply Sel.tail)))) (by repeat (first | with_reducible exact Ins.nil | refine Ins.cons (by repeat (first | with_reducible exact In.head | apply In.tail)) ?_)) (fun _ => (by repeat (first | with_reducible exact App.nil | apply App.cons))) (fun _ => (by repeat (first | with_reducible exact App.nil | apply App.cons)))) rfl rfl ?_; rintro g40 -
    refine V_q (q_pick rfl rfl rfl rfl) rfl rfl ?_
    refine V_q (q_mov rfl rfl) rfl rfl ?_
    refine V_wantl (l_call rfl ent7 rfl (c_known) (by repeat (first | with_reducible exact Pick.nil | apply Pick.cons (by repeat (first | with_reducible exact Sel.head | apply Sel.tail)))) (by repeat (first | with_reducible exact Ins.nil | refine Ins.cons (by repeat (first | with_reducible exact In.head | apply In.tail)) ?_)) (fun _ => (by repeat (first | with_reducible exact App.nil | apply App.cons))) (fun _ => (by repeat (first | with_reducible exact App.nil | apply App.cons)))) rfl rfl ?_; rintro g43 -
    refine V_q (q_pick rfl rfl rfl rfl) rfl rfl ?_
    refine V_q (q_asg rfl rfl) rfl rfl ?_
    refine V_next (fun _ => rfl) ?_
    exact T_ret fun w h => ⟨_, res_1 rfl, (), trivial, rfl, h.weak (List.nil_sublist _) (by simp)⟩
  rw [decide_eq_true h60]
  refine V_want (q_mov rfl rfl) rfl rfl ?_
  refine V_want (q_nil rfl rfl) rfl rfl ?_
  refine V_want (q_fa rfl fd30_1 rfl) rfl rfl ?_
  refine V_want (q_ld rfl ty3 rfl (by repeat (first | with_reducible exact Sel.head | apply Sel.tail)) rfl) rfl rfl ?_
  refine V_want (q_mov rfl rfl) rfl rfl ?_
  refine V_want (q_len rfl Try.underlying27 rfl) rfl rfl ?_
  refine V_want (q_lt rfl rfl rfl) rfl rfl ?_
  refine V_q (q_pick rfl rfl rfl rfl) rfl rfl ?_
  refine V_next (fun _ => rfl) ?_
  refine T_cond rfl (fun hb => ?_) (fun hb => ?_)
  rotate_left
  · refine T_exit_next (fun _ => rfl) ?_
    refine T_seal rAsk (k := 5) rfl (by decide) (xs := xs) (by repeat (first | with_reducible exact Sel.head | apply Sel.tail)) (by repeat (first | with_reducible exact In.head | apply In.tail)) fun a' c' hv => ?_
    injection hv with e1 e2 e3
    subst e1; subst e3
    refine T_seq (T_reg rfl ?_)
    refine V_q (q_mov rfl rfl) rfl rfl ?_
    refine V_l (l_call rfl ent6 rfl (c_play asks a n c) (by repeat (first | with_reducible exact Pick.nil | apply Pick.cons (by repeat (first | with_reducible exact Sel.head | apply Sel.tail)))) (by repeat (first | with_reducible exact Ins.nil | refine Ins.cons (by repeat (first | with_reducible exact In.head | apply In.tail)) ?_)) (fun _ => (by repeat (first | with_reducible exact App.nil | apply App.cons))) (fun _ => (by repeat (first | with_reducible exact App.nil | apply App.cons)))) rfl rfl ?_; rintro g37 -
    refine V_q (q_mov rfl rfl) rfl rfl ?_
    refine V_want (q_mov rfl rfl) rfl rfl ?_
    refine V_wantl (l_call rfl ent6 rfl (c_play xs sa' i sc) (by repeat (first | with_reducible exact Pick.nil | apply Pick.cons (by repeat (first | with_reducible exact Sel.head | apply Sel.tail)))) (by repeat (first | with_reducible exact Ins.nil | refine Ins.cons (by repeat (first | with_reducible exact In.head | apply In.tail)) ?_)) (fun _ => (by repeat (first | with_reducible exact App.nil | apply App.cons))) (fun _ => (by repeat (first | with_reducible exact App.nil | apply App.cons)))) rfl rfl ?_; rintro g40 -
    refine V_q (q_pick rfl rfl rfl rfl) rfl rfl ?_
    refine V_q (q_mov rfl rfl) rfl rfl ?_
    refine V_wantl (l_call rfl ent7 rfl (c_known) (by repeat (first | with_reducible exact Pick.nil | apply Pick.cons (by repeat (first | with_reducible exact Sel.head | apply Sel.tail)))) (by repeat (first | with_reducible exact Ins.nil | refine Ins.cons (by repeat (first | with_reducible exact In.head | apply In.tail)) ?_)) (fun _ => (by repeat (first | with_reducible exact App.nil | apply App.cons))) (fun _ => (by repeat (first | with_reducible exact App.nil | apply App.cons)))) rfl rfl ?_; rintro g43 -
    refine V_q (q_pick rfl rfl rfl rfl) rfl rfl ?_
    refine V_q (q_asg rfl rfl) rfl rfl ?_
    refine V_next (fun _ => rfl) ?_
    exact T_ret fun w h => ⟨_, res_1 rfl, (), trivial, rfl, h.weak (List.nil_sublist _) (by simp)⟩
  have hat : (at_ : Int) < m := by simpa using hb
  refine T_skip_next (fun _ => rfl) ?_
  refine T_block ?_
  have b1 := nxt_bounds L at_ 4 (by omega)
  refine T_reg rfl ?_
  refine V_q (q_mov rfl rfl) rfl rfl ?_
  refine V_q (q_mov rfl rfl) rfl rfl ?_
  refine V_l (l_call rfl ent8 rfl (c_Next L b m d g9 at_ 4) (by repeat (first | with_reducible exact Pick.nil | apply Pick.cons (by repeat (first | with_reducible exact Sel.head | apply Sel.tail)))) (by repeat (first | with_reducible exact Ins.nil | refine Ins.cons (by repeat (first | with_reducible exact In.head | apply In.tail)) ?_)) (fun _ => (by repeat (first | with_reducible exact App.nil | apply App.cons))) (fun _ => (by repeat (first | with_reducible exact App.nil | apply App.cons)))) rfl rfl ?_; rintro g24 -
  refine V_q (q_mov rfl rfl) rfl rfl ?_
  refine V_l (l_call rfl ent8 rfl (c_Next L b m d g9 (nxt L at_ 4).2 3) (by repeat (first | with_reducible exact Pick.nil | apply Pick.cons (by repeat (first | with_reducible exact Sel.head | apply Sel.tail)))) (by repeat (first | with_reducible exact Ins.nil | refine Ins.cons (by repeat (first | with_reducible exact In.head | apply In.tail)) ?_)) (fun _ => (by repeat (first | with_reducible exact App.nil | apply App.cons))) (fun _ => (by repeat (first | with_reducible exact App.nil | apply App.cons)))) rfl rfl ?_; rintro g26 -
  refine V_q (q_mov rfl rfl) rfl rfl ?_
  refine V_l (l_call rfl ent8 rfl (c_Next L b m d g9 (nxt L (nxt L at_ 4).2 3).2 3) (by repeat (first | with_reducible exact Pick.nil | apply Pick.cons (by repeat (first | with_reducible exact Sel.head | apply Sel.tail)))) (by repeat (first | with_reducible exact Ins.nil | refine Ins.cons (by repeat (first | with_reducible exact In.head | apply In.tail)) ?_)) (fun _ => (by repeat (first | with_reducible exact App.nil | apply App.cons))) (fun _ => (by repeat (first | with_reducible exact App.nil | apply App.cons)))) rfl rfl ?_; rintro g28 -
  refine V_q (q_mov rfl rfl) rfl rfl ?_
  refine V_l (l_call rfl ent8 rfl (c_Next L b m d g9 (nxt L (nxt L (nxt L at_ 4).2 3).2 3).2 3) (by repeat (first | with_reducible exact Pick.nil | apply Pick.cons (by repeat (first | with_reducible exact Sel.head | apply Sel.tail)))) (by repeat (first | with_reducible exact Ins.nil | refine Ins.cons (by repeat (first | with_reducible exact In.head | apply In.tail)) ?_)) (fun _ => (by repeat (first | with_reducible exact App.nil | apply App.cons))) (fun _ => (by repeat (first | with_reducible exact App.nil | apply App.cons)))) rfl rfl ?_; rintro g30 -
  refine V_q (q_mov rfl rfl) rfl rfl ?_
  refine V_l (l_call rfl ent9 rfl (c_Number L b m d g9 (nxt L (nxt L (nxt L (nxt L at_ 4).2 3).2 3).2 3).2) (by repeat (first | with_reducible exact Pick.nil | apply Pick.cons (by repeat (first | with_reducible exact Sel.head | apply Sel.tail)))) (by repeat (first | with_reducible exact Ins.nil | refine Ins.cons (by repeat (first | with_reducible exact In.head | apply In.tail)) ?_)) (fun _ => (by repeat (first | with_reducible exact App.nil | apply App.cons))) (fun _ => (by repeat (first | with_reducible exact App.nil | apply App.cons)))) rfl rfl ?_; rintro g32 -
  refine V_q (q_buildS rfl pl24 tz24 rfl rfl (by repeat (first | exact FillL.nil | apply FillL.cons rfl rfl (by repeat (first | exact PutL.z | apply PutL.s | apply PutL.t))))) rfl rfl ?_
  refine V_l (l_bs [.int .i64 0, .int .i64 0, .int .i64 0, .int .i64 0, .int .i64 0] rfl Try.underlying22 ty24 tz24 (by decide) rfl rfl rfl (by repeat (first | exact FillL.nil | apply FillL.cons rfl rfl (by repeat (first | exact PutL.z | apply PutL.s | apply PutL.t))))) rfl rfl ?_; rintro g34 -
  refine V_l (l_appB rfl Try.underlying22 ty24 tz24 tb24 rfl (by decide) rfl rfl (by repeat (first | with_reducible exact Sel.head | apply Sel.tail)) (fun _ => (by repeat (first | with_reducible exact Put.head | apply Put.tail))) rfl rfl (by simp [maxLen]; omega) (by simp; omega)) rfl rfl ?_; rintro v35 -
  refine V_q (q_asg rfl rfl) rfl rfl ?_
  refine V_nil ?_
  intro w h
  obtain ⟨xs', cs', h1⟩ := h.snocAsk (v := v35) (n := i + 1) (xs := xs) (cs := cs) (by repeat (first | with_reducible exact Sel.head | apply Sel.tail)) (by repeat (first | with_reducible exact In.head | apply In.tail))
  exact ⟨(i + 1, xs', v35, cs', (num L (nxt L (nxt L (nxt L (nxt L at_ 4).2 3).2 3).2 3).2).2), ⟨by show 60 - (i + 1) < 60 - i; omega, by show i + 1 ≤ 60; omega⟩, ⟨rfl, rfl, rfl, rfl, trivial⟩, h1.pick (by repeat (first | with_reducible exact Pick.nil | apply Pick.cons (by repeat (first | with_reducible exact Sel.head | apply Sel.tail)))) (by simp)⟩
end Go.Proofs.Ytgbhegmhbeekpaa
