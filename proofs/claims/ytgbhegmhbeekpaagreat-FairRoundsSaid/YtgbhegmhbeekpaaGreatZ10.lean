/-
  Nodes that say nothing, instructions that may be, programs that may be.
-/
import Derived.Test.YtgbhegmhbeekpaaGreatZ9
import Derived.Test.YtgbhegmhbeekpaaGreatFrFn
namespace Go.Proofs.YtgbhegmhbeekpaaGreat
open Go
set_option maxRecDepth 100000

theorem getD_get {xs : List Int} {k : Nat} (h : k < xs.length) : xs.getD k 0 = xs[k] := by simp [List.getD_eq_getElem?_getD, List.getElem?_eq_getElem h]


theorem c_EqI (xs : List Int) (a b : Option Addr) (n c m d : Nat) : Con Tryz.prog 260 #[.slice a n c, .slice b m d] [] [aSl I xs a n c, aSl I xs b m d]
    (fun _ : Unit => True) (fun _ => .bool true) (fun _ => []) (fun _ => []) := by
  refine con_of (n := 26) Tryz.func260 rfl rfl rfl (by simp) ?_
  intro C hC
  refine T_pure (φ := n = xs.length ∧ n ≤ maxLen ∧ m = xs.length) (fun w h => ⟨(sl_len h (xs := xs) (a := a) (n := n) (c := c) (by repeat (first | with_reducible exact In.head | apply In.tail))).1, Nat.le_trans (sl_len h (xs := xs) (a := a) (n := n) (c := c) (by repeat (first | with_reducible exact In.head | apply In.tail))).2.1 (sl_len h (xs := xs) (a := a) (n := n) (c := c) (by repeat (first | with_reducible exact In.head | apply In.tail))).2.2, (sl_len h (xs := xs) (a := b) (n := m) (c := d) (by repeat (first | with_reducible exact In.head | apply In.tail))).1⟩) (fun hlen => ?_)
  obtain ⟨hn, hmax, hm⟩ := hlen
  unfold maxLen at hmax
  have hnm : n = m := by omega
  subst hnm
  refine T_seq (T_reg rfl ?_)
  refine V_q (q_asg rfl rfl) rfl rfl ?_
  refine V_next (fun _ => rfl) ?_
  refine T_seq ?_
  refine T_seq (T_reg rfl ?_)
  refine V_q (q_mov rfl rfl) rfl rfl ?_
  refine V_q (q_len rfl Tryz.underlying22 rfl) rfl rfl ?_
  refine V_q (q_mov rfl rfl) rfl rfl ?_
  refine V_q (q_len rfl Tryz.underlying22 rfl) rfl rfl ?_
  refine V_q (q_ne rfl rfl rfl) rfl rfl ?_
  refine V_next (fun _ => rfl) ?_
  refine T_cond rfl (fun hb => ?_) (fun hb => ?_)
  · simp at hb
  refine T_skip_next (fun _ => rfl) ?_
  refine T_seq ?_
  refine T_seq (T_reg rfl ?_)
  refine V_q (q_mov rfl rfl) rfl rfl ?_
  refine V_q (q_len rfl Tryz.underlying22 rfl) rfl rfl ?_
  refine V_q (q_mov rfl rfl) rfl rfl ?_
  refine V_next (fun _ => rfl) ?_
  refine T_block ?_
  refine T_loop (fun k : Nat => [(0, .slice a n c), (1, .slice b n d), (12, .int .i64 n), (13, .int .i64 k)]) (fun _ => []) (fun _ => [aSl I xs a n c, aSl I xs b n d]) (fun k => k ≤ n) (fun k => n - k) 0 (Nat.zero_le _) ⟨rfl, rfl, rfl, rfl, trivial⟩ (fun w h => h) ?_
  intro k hk
  refine T_seq (T_reg rfl ?_)
  refine V_q (q_lt rfl rfl rfl) rfl rfl ?_
  refine V_next (fun _ => rfl) ?_
  refine T_seq ?_
  refine T_cond rfl (fun hb => ?_) (fun hb => ?_)
  rotate_left
  · refine T_exit_next (fun _ => rfl) ?_
    refine T_seq (T_reg rfl ?_)
    refine V_q (q_asg rfl rfl) rfl rfl ?_
    refine V_next (fun _ => rfl) ?_
    exact T_ret fun w h => ⟨_, res_1 rfl, (), trivial, rfl, h.weak (List.nil_sublist _) (by simp)⟩
  have hin : k < n := by
    have : (k : Int) < n := by simpa using hb
    omega
  clear hb
  refine T_skip_next (fun _ => rfl) ?_
  refine T_seq ?_
  refine T_block ?_
  refine T_seq (T_reg rfl ?_)
  refine V_q (q_mov rfl rfl) rfl rfl ?_
  refine V_q (q_asg rfl rfl) rfl rfl ?_
  refine V_next (fun _ => rfl) ?_
  refine T_seq (T_drawn hmix (.pure 0 <| .pure 1 <| .quiet 2 <| .quiet 3 <| .pure 4 <| .pure 5 <| .quiet 6 <| .quiet 7 <| .pure 8 <| .fin) (by decide +kernel) ?_)
  refine W_p rfl (q_mov rfl rfl) rfl rfl ?_
  refine W_p rfl (q_mov rfl rfl) rfl rfl ?_
  refine W_a rfl (q_iaN rfl Tryz.underlying22 ty3 rfl rfl (by omega) (by repeat (first | with_reducible exact In.head | apply In.tail))) rfl rfl ?_
  refine W_a rfl (q_ldN rfl ty3 rfl (by repeat (first | with_reducible exact In.head | apply In.tail)) (by omega)) rfl rfl ?_
  refine W_p rfl (q_mov rfl rfl) rfl rfl ?_
  refine W_p rfl (q_mov rfl rfl) rfl rfl ?_
  refine W_a rfl (q_iaN rfl Tryz.underlying22 ty3 rfl rfl (by omega) (by repeat (first | with_reducible exact In.head | apply In.tail))) rfl rfl ?_
  refine W_a rfl (q_ldN rfl ty3 rfl (by repeat (first | with_reducible exact In.head | apply In.tail)) (by omega)) rfl rfl ?_
  refine W_p rfl (q_ne rfl rfl rfl) rfl rfl ?_
  refine W_next (fun _ => rfl) ?_
  refine T_cond rfl (fun hb => ?_) (fun hb => ?_)
  · simp at hb
  refine T_skip_next (fun _ => rfl) ?_
  refine T_reg rfl ?_
  refine V_q (q_addI rfl rfl rfl (by omega)) rfl rfl ?_
  refine V_q (q_mov rfl rfl) rfl rfl ?_
  refine V_nil ?_
  exact fun w h => ⟨k + 1, ⟨by omega, by omega⟩, ⟨rfl, rfl, rfl, rfl, trivial⟩, h⟩

theorem c_SameNode (x : Nd) (a1 a2 a3 b1 b2 b3 : Option Addr) (n1 c1 n2 c2 n3 c3 m1 d1 m2 d2 m3 d3 : Nat) : Con Tryz.prog 203
    #[.agg #[.int .i64 x.op, .slice a1 n1 c1, .slice a2 n2 c2, .slice a3 n3 c3, .int .i64 x.n, .int .i64 x.how, .string x.note], .agg #[.int .i64 x.op, .slice b1 m1 d1, .slice b2 m2 d2, .slice b3 m3 d3, .int .i64 x.n, .int .i64 x.how, .string x.note]] []
    [aSl I x.inn a1 n1 c1, aSl I x.sh a2 n2 c2, aSl I x.a a3 n3 c3, aSl I x.inn b1 m1 d1, aSl I x.sh b2 m2 d2, aSl I x.a b3 m3 d3]
    (fun _ : Unit => True) (fun _ => .bool true) (fun _ => []) (fun _ => []) := by
  refine con_of (n := 52) Tryz.func203 rfl rfl rfl (by simp) ?_
  intro C hC
  refine T_seq (T_reg rfl ?_)
  refine V_l (l_boxA rfl rfl) rfl rfl ?_; rintro g2 -
  refine V_l (l_boxA rfl rfl) rfl rfl ?_; rintro g3 -
  refine V_q (q_asg rfl rfl) rfl rfl ?_
  refine V_next (fun _ => rfl) ?_
  have e1 : ∀ y : Int, decide (y = y) = true := fun y => by simp
  have e2 : (x.note.toList == x.note.toList) = true := by simp
  refine T_seq (T_reg rfl ?_)
  refine V_q (q_fa rfl fd35_0 rfl) rfl rfl ?_
  refine V_q (q_ld rfl ty3 rfl (by repeat (first | with_reducible exact Sel.head | apply Sel.tail)) rfl) rfl rfl ?_
  refine V_q (q_fa rfl fd35_0 rfl) rfl rfl ?_
  refine V_q (q_ld rfl ty3 rfl (by repeat (first | with_reducible exact Sel.head | apply Sel.tail)) rfl) rfl rfl ?_
  refine V_q (q_eq rfl rfl rfl) rfl rfl ?_
  rw [e1]
  refine V_q (q_mov rfl rfl) rfl rfl ?_
  refine V_want (q_fa rfl fd35_1 rfl) rfl rfl ?_
  refine V_want (q_ld rfl ty22 rfl (by repeat (first | with_reducible exact Sel.head | apply Sel.tail)) rfl) rfl rfl ?_
  refine V_want (q_fa rfl fd35_1 rfl) rfl rfl ?_
  refine V_want (q_ld rfl ty22 rfl (by repeat (first | with_reducible exact Sel.head | apply Sel.tail)) rfl) rfl rfl ?_
  refine V_wantl (l_call rfl ent260 rfl (c_EqI x.inn a1 b1 n1 c1 m1 d1) (by repeat (first | with_reducible exact Pick.nil | apply Pick.cons (by repeat (first | with_reducible exact Sel.head | apply Sel.tail)))) (by repeat (first | with_reducible exact Ins.nil | refine Ins.cons (by repeat (first | with_reducible exact In.head | apply In.tail)) ?_)) (fun _ => (by repeat (first | with_reducible exact App.nil | apply App.cons))) (fun _ => (by repeat (first | with_reducible exact App.nil | apply App.cons)))) rfl rfl ?_; rintro g15 -
  refine V_q (q_pick rfl rfl rfl rfl) rfl rfl ?_
  refine V_q (q_mov rfl rfl) rfl rfl ?_
  refine V_want (q_fa rfl fd35_2 rfl) rfl rfl ?_
  refine V_want (q_ld rfl ty22 rfl (by repeat (first | with_reducible exact Sel.head | apply Sel.tail)) rfl) rfl rfl ?_
  refine V_want (q_fa rfl fd35_2 rfl) rfl rfl ?_
  refine V_want (q_ld rfl ty22 rfl (by repeat (first | with_reducible exact Sel.head | apply Sel.tail)) rfl) rfl rfl ?_
  refine V_wantl (l_call rfl ent260 rfl (c_EqI x.sh a2 b2 n2 c2 m2 d2) (by repeat (first | with_reducible exact Pick.nil | apply Pick.cons (by repeat (first | with_reducible exact Sel.head | apply Sel.tail)))) (by repeat (first | with_reducible exact Ins.nil | refine Ins.cons (by repeat (first | with_reducible exact In.head | apply In.tail)) ?_)) (fun _ => (by repeat (first | with_reducible exact App.nil | apply App.cons))) (fun _ => (by repeat (first | with_reducible exact App.nil | apply App.cons)))) rfl rfl ?_; rintro g22 -
  refine V_q (q_pick rfl rfl rfl rfl) rfl rfl ?_
  refine V_q (q_mov rfl rfl) rfl rfl ?_
  refine V_want (q_fa rfl fd35_3 rfl) rfl rfl ?_
  refine V_want (q_ld rfl ty22 rfl (by repeat (first | with_reducible exact Sel.head | apply Sel.tail)) rfl) rfl rfl ?_
  refine V_want (q_fa rfl fd35_3 rfl) rfl rfl ?_
  refine V_want (q_ld rfl ty22 rfl (by repeat (first | with_reducible exact Sel.head | apply Sel.tail)) rfl) rfl rfl ?_
  refine V_wantl (l_call rfl ent260 rfl (c_EqI x.a a3 b3 n3 c3 m3 d3) (by repeat (first | with_reducible exact Pick.nil | apply Pick.cons (by repeat (first | with_reducible exact Sel.head | apply Sel.tail)))) (by repeat (first | with_reducible exact Ins.nil | refine Ins.cons (by repeat (first | with_reducible exact In.head | apply In.tail)) ?_)) (fun _ => (by repeat (first | with_reducible exact App.nil | apply App.cons))) (fun _ => (by repeat (first | with_reducible exact App.nil | apply App.cons)))) rfl rfl ?_; rintro g29 -
  refine V_q (q_pick rfl rfl rfl rfl) rfl rfl ?_
  refine V_q (q_mov rfl rfl) rfl rfl ?_
  refine V_want (q_fa rfl fd35_4 rfl) rfl rfl ?_
  refine V_want (q_ld rfl ty2 rfl (by repeat (first | with_reducible exact Sel.head | apply Sel.tail)) rfl) rfl rfl ?_
  refine V_want (q_fa rfl fd35_4 rfl) rfl rfl ?_
  refine V_want (q_ld rfl ty2 rfl (by repeat (first | with_reducible exact Sel.head | apply Sel.tail)) rfl) rfl rfl ?_
  refine V_want (q_eq rfl rfl rfl) rfl rfl ?_
  rw [e1]
  refine V_q (q_pick rfl rfl rfl rfl) rfl rfl ?_
  refine V_q (q_mov rfl rfl) rfl rfl ?_
  refine V_want (q_fa rfl fd35_5 rfl) rfl rfl ?_
  refine V_want (q_ld rfl ty3 rfl (by repeat (first | with_reducible exact Sel.head | apply Sel.tail)) rfl) rfl rfl ?_
  refine V_want (q_fa rfl fd35_5 rfl) rfl rfl ?_
  refine V_want (q_ld rfl ty3 rfl (by repeat (first | with_reducible exact Sel.head | apply Sel.tail)) rfl) rfl rfl ?_
  refine V_want (q_eq rfl rfl rfl) rfl rfl ?_
  rw [e1]
  refine V_q (q_pick rfl rfl rfl rfl) rfl rfl ?_
  refine V_q (q_mov rfl rfl) rfl rfl ?_
  refine V_want (q_fa rfl fd35_6 rfl) rfl rfl ?_
  refine V_want (q_ld rfl ty9 rfl (by repeat (first | with_reducible exact Sel.head | apply Sel.tail)) rfl) rfl rfl ?_
  refine V_want (q_fa rfl fd35_6 rfl) rfl rfl ?_
  refine V_want (q_ld rfl ty9 rfl (by repeat (first | with_reducible exact Sel.head | apply Sel.tail)) rfl) rfl rfl ?_
  refine V_want (q_eql_string rfl Tryz.underlying9 rfl rfl) rfl rfl ?_
  rw [e2]
  refine V_q (q_pick rfl rfl rfl rfl) rfl rfl ?_
  refine V_q (q_asg rfl rfl) rfl rfl ?_
  refine V_next (fun _ => rfl) ?_
  exact T_ret fun w h => ⟨_, res_1 rfl, (), trivial, rfl, h.weak (List.nil_sublist _) (by simp)⟩
theorem NdZ.eq {x : Nd} (h : NdZ x) : x = nd0 := by
  obtain ⟨a, b, c, d, e, f, g⟩ := x
  obtain ⟨rfl, rfl, rfl, rfl, rfl, rfl, rfl⟩ := h
  rfl

theorem c_zeroNode (a1 a2 a3 : Option Addr) (n1 c1 n2 c2 n3 c3 : Nat) : Con Tryz.prog 151
    #[.agg #[.int .i64 0, .slice a1 n1 c1, .slice a2 n2 c2, .slice a3 n3 c3, .int .i64 0, .int .i64 0, .string ByteArray.empty]] [] [aSl I [] a1 n1 c1, aSl I [] a2 n2 c2, aSl I [] a3 n3 c3]
    (fun _ : Unit => True) (fun _ => .bool true) (fun _ => []) (fun _ => []) := by
  refine con_of (n := 6) Tryz.func151 rfl rfl rfl (by simp) ?_
  intro C hC
  refine T_seq (T_reg rfl ?_)
  refine V_l (l_boxA rfl rfl) rfl rfl ?_; rintro g1 -
  refine V_q (q_asg rfl rfl) rfl rfl ?_
  refine V_next (fun _ => rfl) ?_
  refine T_ghost (fun w h => h.nil I) ?_
  refine T_seq (T_reg rfl ?_)
  refine V_q (q_ldA rfl ty35 rfl (by repeat (first | with_reducible exact Sel.head | apply Sel.tail)) (by repeat (first | exact SubL.z | apply SubL.s | apply SubL.t))) rfl rfl ?_
  refine V_q (q_buildS rfl pl35 tz35 rfl rfl (by repeat (first | exact FillL.nil | apply FillL.cons rfl rfl (by repeat (first | exact PutL.z | apply PutL.s | apply PutL.t))))) rfl rfl ?_
  refine V_l (l_call rfl ent203 rfl (c_SameNode nd0 a1 a2 a3 none none none n1 c1 n2 c2 n3 c3 0 0 0 0 0 0) (by repeat (first | with_reducible exact Pick.nil | apply Pick.cons (by repeat (first | with_reducible exact Sel.head | apply Sel.tail)))) (by repeat (first | with_reducible exact Ins.nil | refine Ins.cons (by repeat (first | with_reducible exact In.head | apply In.tail)) ?_)) (fun _ => (by repeat (first | with_reducible exact App.nil | apply App.cons))) (fun _ => (by repeat (first | with_reducible exact App.nil | apply App.cons)))) rfl rfl ?_; rintro g5 -
  refine V_q (q_asg rfl rfl) rfl rfl ?_
  refine V_next (fun _ => rfl) ?_
  exact T_ret fun w h => ⟨_, res_1 rfl, (), trivial, rfl, h.weak (List.nil_sublist _) (by simp)⟩

theorem c_shaped (i : Inst) (hs : ShI i) (a0 a1 a2 a3 : Option Addr) (n0 c0 n1 c1 n2 c2 n3 c3 : Nat) : Con Tryz.prog 116
    #[.agg (instC i i.out a0 n0 c0 a1 n1 c1 a2 n2 c2 a3 n3 c3).toArray] [] [aSl I i.inn a0 n0 c0, aSl I i.node.inn a1 n1 c1, aSl I i.node.sh a2 n2 c2, aSl I i.node.a a3 n3 c3]
    (fun _ : Unit => True) (fun _ => .bool true) (fun _ => []) (fun _ => []) := by
  obtain ⟨kind, out, inn, node, num, dev, tag⟩ := i
  refine con_of (n := 78) Tryz.func116 rfl rfl rfl (by simp) ?_
  intro C hC
  refine T_pure (φ := n0 = inn.length) (fun w h => (sl_len h (xs := inn) (a := a0) (n := n0) (c := c0) (by repeat (first | with_reducible exact In.head | apply In.tail))).1) (fun hn0 => ?_)
  rcases hs with ⟨rfl, rfl, hz, rfl, rfl⟩ | ⟨rfl, rfl, rfl, rfl⟩ | ⟨rfl, h1, rfl, hz, rfl⟩ | ⟨rfl, rfl, hz, rfl⟩
  · have := hz.eq
    replace this : node = nd0 := this
    subst this
    have hn : n0 = 0 := by simpa using hn0
    subst hn
    refine T_seq (T_reg rfl ?_)
    refine V_l (l_boxA rfl rfl) rfl rfl ?_; rintro g1 -
    refine V_q (q_asg rfl rfl) rfl rfl ?_
    refine V_next (fun _ => rfl) ?_
    refine T_seq ?_
    refine T_seq (T_reg rfl ?_)
    refine V_q (q_fa rfl fd112_0 rfl) rfl rfl ?_
    refine V_q (q_ld rfl ty3 rfl (by repeat (first | with_reducible exact Sel.head | apply Sel.tail)) rfl) rfl rfl ?_
    refine V_next (fun _ => rfl) ?_
    refine T_block ?_
    refine T_seq (T_reg rfl ?_)
    refine V_q (q_eq rfl rfl rfl) rfl rfl ?_
    refine V_q (q_asg rfl rfl) rfl rfl ?_
    refine V_next (fun _ => rfl) ?_
    refine T_cond rfl (fun hb => ?_) (fun hb => ?_)
    · refine T_seq (T_reg rfl ?_)
      refine V_q (q_fa rfl fd112_2 rfl) rfl rfl ?_
      refine V_q (q_ld rfl ty22 rfl (by repeat (first | with_reducible exact Sel.head | apply Sel.tail)) rfl) rfl rfl ?_
      refine V_q (q_len rfl Tryz.underlying22 rfl) rfl rfl ?_
      refine V_q (q_eq rfl rfl rfl) rfl rfl ?_
      refine V_q (q_mov rfl rfl) rfl rfl ?_
      refine V_want (q_fa rfl fd112_3 rfl) rfl rfl ?_
      refine V_want (q_ldA rfl ty35 rfl (by repeat (first | with_reducible exact Sel.head | apply Sel.tail)) (by repeat (first | exact SubL.z | apply SubL.s | apply SubL.t))) rfl rfl ?_
      refine V_wantl (l_call rfl ent151 rfl (c_zeroNode a1 a2 a3 n1 c1 n2 c2 n3 c3) (by repeat (first | with_reducible exact Pick.nil | apply Pick.cons (by repeat (first | with_reducible exact Sel.head | apply Sel.tail)))) (by repeat (first | with_reducible exact Ins.nil | refine Ins.cons (by repeat (first | with_reducible exact In.head | apply In.tail)) ?_)) (fun _ => (by repeat (first | with_reducible exact App.nil | apply App.cons))) (fun _ => (by repeat (first | with_reducible exact App.nil | apply App.cons)))) rfl rfl ?_; rintro g14 -
      refine V_q (q_pick rfl rfl rfl rfl) rfl rfl ?_
      refine V_q (q_mov rfl rfl) rfl rfl ?_
      refine V_want (q_fa rfl fd112_5 rfl) rfl rfl ?_
      refine V_want (q_ld rfl ty3 rfl (by repeat (first | with_reducible exact Sel.head | apply Sel.tail)) rfl) rfl rfl ?_
      refine V_want (q_eq rfl rfl rfl) rfl rfl ?_
      refine V_q (q_pick rfl rfl rfl rfl) rfl rfl ?_
      refine V_q (q_mov rfl rfl) rfl rfl ?_
      refine V_want (q_fa rfl fd112_6 rfl) rfl rfl ?_
      refine V_want (q_ld rfl ty3 rfl (by repeat (first | with_reducible exact Sel.head | apply Sel.tail)) rfl) rfl rfl ?_
      refine V_want (q_eq rfl rfl rfl) rfl rfl ?_
      refine V_q (q_pick rfl rfl rfl rfl) rfl rfl ?_
      refine V_q (q_asg rfl rfl) rfl rfl ?_
      refine V_next (fun _ => rfl) ?_
      exact T_ret fun w h => ⟨_, res_1 rfl, (), trivial, rfl, h.weak (List.nil_sublist _) (by simp)⟩
    · simp at hb
  · refine T_seq (T_reg rfl ?_)
    refine V_l (l_boxA rfl rfl) rfl rfl ?_; rintro g1 -
    refine V_q (q_asg rfl rfl) rfl rfl ?_
    refine V_next (fun _ => rfl) ?_
    refine T_seq ?_
    refine T_seq (T_reg rfl ?_)
    refine V_q (q_fa rfl fd112_0 rfl) rfl rfl ?_
    refine V_q (q_ld rfl ty3 rfl (by repeat (first | with_reducible exact Sel.head | apply Sel.tail)) rfl) rfl rfl ?_
    refine V_next (fun _ => rfl) ?_
    refine T_block ?_
    refine T_seq (T_reg rfl ?_)
    refine V_q (q_eq rfl rfl rfl) rfl rfl ?_
    refine V_q (q_asg rfl rfl) rfl rfl ?_
    refine V_next (fun _ => rfl) ?_
    refine T_cond rfl (fun hb => ?_) (fun hb => ?_)
    · simp at hb
    refine T_seq (T_reg rfl ?_)
    refine V_q (q_eq rfl rfl rfl) rfl rfl ?_
    refine V_q (q_asg rfl rfl) rfl rfl ?_
    refine V_next (fun _ => rfl) ?_
    refine T_cond rfl (fun hb => ?_) (fun hb => ?_)
    · refine T_seq (T_reg rfl ?_)
      refine V_q (q_fa rfl fd112_4 rfl) rfl rfl ?_
      refine V_q (q_ld rfl ty3 rfl (by repeat (first | with_reducible exact Sel.head | apply Sel.tail)) rfl) rfl rfl ?_
      refine V_q (q_eq rfl rfl rfl) rfl rfl ?_
      refine V_q (q_mov rfl rfl) rfl rfl ?_
      refine V_want (q_fa rfl fd112_5 rfl) rfl rfl ?_
      refine V_want (q_ld rfl ty3 rfl (by repeat (first | with_reducible exact Sel.head | apply Sel.tail)) rfl) rfl rfl ?_
      refine V_want (q_eq rfl rfl rfl) rfl rfl ?_
      refine V_q (q_pick rfl rfl rfl rfl) rfl rfl ?_
      refine V_q (q_mov rfl rfl) rfl rfl ?_
      refine V_want (q_fa rfl fd112_6 rfl) rfl rfl ?_
      refine V_want (q_ld rfl ty3 rfl (by repeat (first | with_reducible exact Sel.head | apply Sel.tail)) rfl) rfl rfl ?_
      refine V_want (q_eq rfl rfl rfl) rfl rfl ?_
      refine V_q (q_pick rfl rfl rfl rfl) rfl rfl ?_
      refine V_q (q_asg rfl rfl) rfl rfl ?_
      refine V_next (fun _ => rfl) ?_
      exact T_ret fun w h => ⟨_, res_1 rfl, (), trivial, rfl, h.weak (List.nil_sublist _) (by simp)⟩
    · simp at hb
  · have := hz.eq
    replace this : node = nd0 := this
    subst this
    have hn : n0 = 1 := by rw [hn0]; exact h1
    subst hn
    refine T_seq (T_reg rfl ?_)
    refine V_l (l_boxA rfl rfl) rfl rfl ?_; rintro g1 -
    refine V_q (q_asg rfl rfl) rfl rfl ?_
    refine V_next (fun _ => rfl) ?_
    refine T_seq ?_
    refine T_seq (T_reg rfl ?_)
    refine V_q (q_fa rfl fd112_0 rfl) rfl rfl ?_
    refine V_q (q_ld rfl ty3 rfl (by repeat (first | with_reducible exact Sel.head | apply Sel.tail)) rfl) rfl rfl ?_
    refine V_next (fun _ => rfl) ?_
    refine T_block ?_
    refine T_seq (T_reg rfl ?_)
    refine V_q (q_eq rfl rfl rfl) rfl rfl ?_
    refine V_q (q_asg rfl rfl) rfl rfl ?_
    refine V_next (fun _ => rfl) ?_
    refine T_cond rfl (fun hb => ?_) (fun hb => ?_)
    · simp at hb
    refine T_seq (T_reg rfl ?_)
    refine V_q (q_eq rfl rfl rfl) rfl rfl ?_
    refine V_q (q_asg rfl rfl) rfl rfl ?_
    refine V_next (fun _ => rfl) ?_
    refine T_cond rfl (fun hb => ?_) (fun hb => ?_)
    · simp at hb
    refine T_seq (T_reg rfl ?_)
    refine V_q (q_eq rfl rfl rfl) rfl rfl ?_
    refine V_q (q_asg rfl rfl) rfl rfl ?_
    refine V_next (fun _ => rfl) ?_
    refine T_cond rfl (fun hb => ?_) (fun hb => ?_)
    · refine T_seq (T_reg rfl ?_)
      refine V_q (q_fa rfl fd112_2 rfl) rfl rfl ?_
      refine V_q (q_ld rfl ty22 rfl (by repeat (first | with_reducible exact Sel.head | apply Sel.tail)) rfl) rfl rfl ?_
      refine V_q (q_len rfl Tryz.underlying22 rfl) rfl rfl ?_
      refine V_q (q_eq rfl rfl rfl) rfl rfl ?_
      refine V_q (q_mov rfl rfl) rfl rfl ?_
      refine V_want (q_fa rfl fd112_1 rfl) rfl rfl ?_
      refine V_want (q_ld rfl ty3 rfl (by repeat (first | with_reducible exact Sel.head | apply Sel.tail)) rfl) rfl rfl ?_
      refine V_want (q_eq rfl rfl rfl) rfl rfl ?_
      refine V_q (q_pick rfl rfl rfl rfl) rfl rfl ?_
      refine V_q (q_mov rfl rfl) rfl rfl ?_
      refine V_want (q_fa rfl fd112_3 rfl) rfl rfl ?_
      refine V_want (q_ldA rfl ty35 rfl (by repeat (first | with_reducible exact Sel.head | apply Sel.tail)) (by repeat (first | exact SubL.z | apply SubL.s | apply SubL.t))) rfl rfl ?_
      refine V_wantl (l_call rfl ent151 rfl (c_zeroNode a1 a2 a3 n1 c1 n2 c2 n3 c3) (by repeat (first | with_reducible exact Pick.nil | apply Pick.cons (by repeat (first | with_reducible exact Sel.head | apply Sel.tail)))) (by repeat (first | with_reducible exact Ins.nil | refine Ins.cons (by repeat (first | with_reducible exact In.head | apply In.tail)) ?_)) (fun _ => (by repeat (first | with_reducible exact App.nil | apply App.cons))) (fun _ => (by repeat (first | with_reducible exact App.nil | apply App.cons)))) rfl rfl ?_; rintro g55 -
      refine V_q (q_pick rfl rfl rfl rfl) rfl rfl ?_
      refine V_q (q_mov rfl rfl) rfl rfl ?_
      refine V_want (q_fa rfl fd112_4 rfl) rfl rfl ?_
      refine V_want (q_ld rfl ty3 rfl (by repeat (first | with_reducible exact Sel.head | apply Sel.tail)) rfl) rfl rfl ?_
      refine V_want (q_eq rfl rfl rfl) rfl rfl ?_
      refine V_q (q_pick rfl rfl rfl rfl) rfl rfl ?_
      refine V_q (q_asg rfl rfl) rfl rfl ?_
      refine V_next (fun _ => rfl) ?_
      exact T_ret fun w h => ⟨_, res_1 rfl, (), trivial, rfl, h.weak (List.nil_sublist _) (by simp)⟩
    · simp at hb
  · have := hz.eq
    replace this : node = nd0 := this
    subst this
    have hn : n0 = 0 := by simpa using hn0
    subst hn
    refine T_seq (T_reg rfl ?_)
    refine V_l (l_boxA rfl rfl) rfl rfl ?_; rintro g1 -
    refine V_q (q_asg rfl rfl) rfl rfl ?_
    refine V_next (fun _ => rfl) ?_
    refine T_seq ?_
    refine T_seq (T_reg rfl ?_)
    refine V_q (q_fa rfl fd112_0 rfl) rfl rfl ?_
    refine V_q (q_ld rfl ty3 rfl (by repeat (first | with_reducible exact Sel.head | apply Sel.tail)) rfl) rfl rfl ?_
    refine V_next (fun _ => rfl) ?_
    refine T_block ?_
    refine T_seq (T_reg rfl ?_)
    refine V_q (q_eq rfl rfl rfl) rfl rfl ?_
    refine V_q (q_asg rfl rfl) rfl rfl ?_
    refine V_next (fun _ => rfl) ?_
    refine T_cond rfl (fun hb => ?_) (fun hb => ?_)
    · simp at hb
    refine T_seq (T_reg rfl ?_)
    refine V_q (q_eq rfl rfl rfl) rfl rfl ?_
    refine V_q (q_asg rfl rfl) rfl rfl ?_
    refine V_next (fun _ => rfl) ?_
    refine T_cond rfl (fun hb => ?_) (fun hb => ?_)
    · simp at hb
    refine T_seq (T_reg rfl ?_)
    refine V_q (q_eq rfl rfl rfl) rfl rfl ?_
    refine V_q (q_asg rfl rfl) rfl rfl ?_
    refine V_next (fun _ => rfl) ?_
    refine T_cond rfl (fun hb => ?_) (fun hb => ?_)
    · simp at hb
    refine T_seq (T_reg rfl ?_)
    refine V_q (q_eq rfl rfl rfl) rfl rfl ?_
    refine V_q (q_asg rfl rfl) rfl rfl ?_
    refine V_next (fun _ => rfl) ?_
    refine T_cond rfl (fun hb => ?_) (fun hb => ?_)
    · refine T_seq (T_reg rfl ?_)
      refine V_q (q_fa rfl fd112_2 rfl) rfl rfl ?_
      refine V_q (q_ld rfl ty22 rfl (by repeat (first | with_reducible exact Sel.head | apply Sel.tail)) rfl) rfl rfl ?_
      refine V_q (q_len rfl Tryz.underlying22 rfl) rfl rfl ?_
      refine V_q (q_eq rfl rfl rfl) rfl rfl ?_
      refine V_q (q_mov rfl rfl) rfl rfl ?_
      refine V_want (q_fa rfl fd112_3 rfl) rfl rfl ?_
      refine V_want (q_ldA rfl ty35 rfl (by repeat (first | with_reducible exact Sel.head | apply Sel.tail)) (by repeat (first | exact SubL.z | apply SubL.s | apply SubL.t))) rfl rfl ?_
      refine V_wantl (l_call rfl ent151 rfl (c_zeroNode a1 a2 a3 n1 c1 n2 c2 n3 c3) (by repeat (first | with_reducible exact Pick.nil | apply Pick.cons (by repeat (first | with_reducible exact Sel.head | apply Sel.tail)))) (by repeat (first | with_reducible exact Ins.nil | refine Ins.cons (by repeat (first | with_reducible exact In.head | apply In.tail)) ?_)) (fun _ => (by repeat (first | with_reducible exact App.nil | apply App.cons))) (fun _ => (by repeat (first | with_reducible exact App.nil | apply App.cons)))) rfl rfl ?_; rintro g71 -
      refine V_q (q_pick rfl rfl rfl rfl) rfl rfl ?_
      refine V_q (q_mov rfl rfl) rfl rfl ?_
      refine V_want (q_fa rfl fd112_4 rfl) rfl rfl ?_
      refine V_want (q_ld rfl ty3 rfl (by repeat (first | with_reducible exact Sel.head | apply Sel.tail)) rfl) rfl rfl ?_
      refine V_want (q_eq rfl rfl rfl) rfl rfl ?_
      refine V_q (q_pick rfl rfl rfl rfl) rfl rfl ?_
      refine V_q (q_asg rfl rfl) rfl rfl ?_
      refine V_next (fun _ => rfl) ?_
      exact T_ret fun w h => ⟨_, res_1 rfl, (), trivial, rfl, h.weak (List.nil_sublist _) (by simp)⟩
    · simp at hb

/-- the registers that these write -/
def wE (q : List Inst) : List (Int × Value) := (q.filter fun x => decide (x.kind ≠ 3)).map fun x => (x.out, .agg #[])
theorem wE_some (q : List Inst) (r : Int) : (lkE (wE q) r).isSome = true ↔ ∃ x ∈ q, x.kind ≠ 3 ∧ x.out = r := by
  rw [lkE_isSome]
  unfold wE
  rw [List.map_map, List.mem_map]
  constructor
  · rintro ⟨x, hx, rfl⟩
    obtain ⟨h1, h2⟩ := List.mem_filter.1 hx
    exact ⟨x, h1, by simpa using h2, rfl⟩
  · rintro ⟨x, h1, h2, rfl⟩
    exact ⟨x, List.mem_filter.2 ⟨h1, by simpa using h2⟩, rfl⟩
theorem wE_val (q : List Inst) (r : Int) : (lkE (wE q) r).getD (.agg #[]) = .agg #[] := by
  unfold wE
  induction q with
  | nil => rfl
  | cons x q ih =>
    by_cases h : x.kind ≠ 3
    · rw [List.filter_cons_of_pos (by simpa using h), List.map_cons, lkE_cons']
      split
      · rfl
      · exact ih
    · rw [List.filter_cons_of_neg (by simpa using h)]; exact ih
theorem wE_snoc (q : List Inst) (i : Inst) : wE (q ++ [i]) = if i.kind ≠ 3 then wE q ++ [(i.out, .agg #[])] else wE q := by
  unfold wE
  rw [List.filter_append, List.map_append]
  by_cases h : i.kind = 3 <;> simp [h]
abbrev kI : Int → Value := κi .i64
theorem ktI : KeyT Tryz.prog 3 kI := keyT_int Tryz.underlying3

theorem c_placed (q : List Inst) (i : Inst) (n r : Nat) (hp : PlI n q i) (a0 a1 a2 a3 : Option Addr) (n0 c0 n1 c1 n2 c2 n3 c3 : Nat) : Con Tryz.prog 117
    #[.agg (instC i i.out a0 n0 c0 a1 n1 c1 a2 n2 c2 a3 n3 c3).toArray, .int .i64 n, .map (some r)] [rMap kI r (wE q)] [aSl I i.inn a0 n0 c0]
    (fun _ : Unit => True) (fun _ => .bool true) (fun _ => [rMap kI r (wE q)]) (fun _ => []) := by
  refine con_of (n := 74) Tryz.func117 rfl rfl rfl (by simp) ?_
  intro C hC
  refine T_pure (φ := n0 = i.inn.length ∧ n0 ≤ maxLen) (fun w h => ⟨(sl_len h (xs := i.inn) (a := a0) (n := n0) (c := c0) (by repeat (first | with_reducible exact In.head | apply In.tail))).1, Nat.le_trans (sl_len h (xs := i.inn) (a := a0) (n := n0) (c := c0) (by repeat (first | with_reducible exact In.head | apply In.tail))).2.1 (sl_len h (xs := i.inn) (a := a0) (n := n0) (c := c0) (by repeat (first | with_reducible exact In.head | apply In.tail))).2.2⟩) (fun hn0 => ?_)
  obtain ⟨hn0, hmax⟩ := hn0
  unfold maxLen at hmax
  refine T_seq (T_reg rfl ?_)
  refine V_l (l_boxA rfl rfl) rfl rfl ?_; rintro g3 -
  refine V_q (q_asg rfl rfl) rfl rfl ?_
  refine V_next (fun _ => rfl) ?_
  refine T_seq ?_
  refine T_seq (T_reg rfl ?_)
  refine V_q (q_fa rfl fd112_2 rfl) rfl rfl ?_
  refine V_q (q_ld rfl ty22 rfl (by repeat (first | with_reducible exact Sel.head | apply Sel.tail)) rfl) rfl rfl ?_
  refine V_q (q_len rfl Tryz.underlying22 rfl) rfl rfl ?_
  refine V_q (q_mov rfl rfl) rfl rfl ?_
  refine V_next (fun _ => rfl) ?_
  refine T_block ?_
  refine T_loop (fun k : Nat => [(1, .int .i64 n), (2, .map (some r)), (3, .pointer (some ⟨g3, 0, none⟩)), (14, .slice a0 n0 c0), (15, .int .i64 n0), (16, .int .i64 k)]) (fun _ => [rBlk g3 112 (instC i i.out a0 n0 c0 a1 n1 c1 a2 n2 c2 a3 n3 c3), rMap kI r (wE q)]) (fun _ => [aSl I i.inn a0 n0 c0]) (fun k => k ≤ n0) (fun k => n0 - k) 0 (Nat.zero_le _) ⟨rfl, rfl, rfl, rfl, rfl, rfl, trivial⟩ (fun w h => h) ?_
  intro k hk
  refine T_seq (T_reg rfl ?_)
  refine V_q (q_lt rfl rfl rfl) rfl rfl ?_
  refine V_next (fun _ => rfl) ?_
  refine T_seq ?_
  refine T_cond rfl (fun hb => ?_) (fun hb => ?_)
  rotate_left
  · refine T_exit_next (fun _ => rfl) ?_
    refine T_seq ?_
    refine T_seq (T_reg rfl ?_)
    refine V_q (q_fa rfl fd112_0 rfl) rfl rfl ?_
    refine V_q (q_ld rfl ty3 rfl (by repeat (first | with_reducible exact Sel.head | apply Sel.tail)) rfl) rfl rfl ?_
    refine V_q (q_ne rfl rfl rfl) rfl rfl ?_
    refine V_next (fun _ => rfl) ?_
    refine T_cond rfl (fun hb => ?_) (fun hb => ?_)
    · have hk3 : i.kind ≠ 3 := by simpa using hb
      have hnew : (lkE (wE q) i.out).isSome = false := by
        cases h : (lkE (wE q) i.out).isSome with
        | false => rfl
        | true =>
          obtain ⟨x, hx, h1, h2⟩ := (wE_some q i.out).1 h
          exact absurd h2 (hp.new hk3 x hx h1)
      have ho := hp.out hk3
      refine T_seq (T_reg rfl ?_)
      refine V_q (q_mov rfl rfl) rfl rfl ?_
      refine V_q (q_fa rfl fd112_1 rfl) rfl rfl ?_
      refine V_q (q_ld rfl ty3 rfl (by repeat (first | with_reducible exact Sel.head | apply Sel.tail)) rfl) rfl rfl ?_
      refine V_q (q_lookup2E i.out rfl Tryz.underlying167 ktI tz169 rfl rfl (by repeat (first | with_reducible exact Sel.head | apply Sel.tail)) (wE_val q _) hnew) rfl rfl ?_
      refine V_q (q_mov rfl rfl) rfl rfl ?_
      refine V_q (q_ext rfl rfl rfl) rfl rfl ?_
      refine V_q (q_ext rfl rfl rfl) rfl rfl ?_
      refine V_l (l_alloc (cs := []) rfl tz169 rfl) rfl rfl ?_; rintro g11 -
      refine V_n (l_st rfl ty169 rfl rfl rfl rfl rfl (by repeat (first | with_reducible exact Put.head | apply Put.tail)) (by repeat (first | exact PutL.z | apply PutL.s | apply PutL.t))) rfl rfl ?_; rintro ⟨⟩ -
      refine V_q (q_asg rfl rfl) rfl rfl ?_
      refine V_next (fun _ => rfl) ?_
      refine T_seq (T_reg rfl ?_)
      refine V_q (q_mov rfl rfl) rfl rfl ?_
      refine V_q (q_mov rfl rfl) rfl rfl ?_
      refine V_want (q_fa rfl fd112_1 rfl) rfl rfl ?_
      refine V_want (q_ld rfl ty3 rfl (by repeat (first | with_reducible exact Sel.head | apply Sel.tail)) rfl) rfl rfl ?_
      refine V_want (q_lt rfl rfl rfl) rfl rfl ?_
      rw [decide_eq_false (show ¬ i.out < 0 by omega)]
      refine V_q (q_pick rfl rfl rfl rfl) rfl rfl ?_
      refine V_q (q_mov rfl rfl) rfl rfl ?_
      refine V_want (q_fa rfl fd112_1 rfl) rfl rfl ?_
      refine V_want (q_ld rfl ty3 rfl (by repeat (first | with_reducible exact Sel.head | apply Sel.tail)) rfl) rfl rfl ?_
      refine V_want (q_gt rfl rfl rfl) rfl rfl ?_
      rw [decide_eq_false (show ¬ 65536 < i.out by omega)]
      refine V_q (q_pick rfl rfl rfl rfl) rfl rfl ?_
      refine V_next (fun _ => rfl) ?_
      refine T_cond rfl (fun hb => ?_) (fun hb => ?_)
      · cases hb
      refine T_skip_next (fun _ => rfl) ?_
      have hd := hp.dev
      have hnu := hp.num
      have htg := hp.tag
      refine T_seq (T_reg rfl ?_)
      refine V_q (q_fa rfl fd112_5 rfl) rfl rfl ?_
      refine V_q (q_ld rfl ty3 rfl (by repeat (first | with_reducible exact Sel.head | apply Sel.tail)) rfl) rfl rfl ?_
      refine V_q (q_ge rfl rfl rfl) rfl rfl ?_
      rw [decide_eq_true hd.1]
      refine V_q (q_mov rfl rfl) rfl rfl ?_
      refine V_want (q_fa rfl fd112_5 rfl) rfl rfl ?_
      refine V_want (q_ld rfl ty3 rfl (by repeat (first | with_reducible exact Sel.head | apply Sel.tail)) rfl) rfl rfl ?_
      refine V_want (q_mov rfl rfl) rfl rfl ?_
      refine V_want (q_lt rfl rfl rfl) rfl rfl ?_
      rw [decide_eq_true hd.2]
      refine V_q (q_pick rfl rfl rfl rfl) rfl rfl ?_
      refine V_q (q_mov rfl rfl) rfl rfl ?_
      refine V_want (q_fa rfl fd112_4 rfl) rfl rfl ?_
      refine V_want (q_ld rfl ty3 rfl (by repeat (first | with_reducible exact Sel.head | apply Sel.tail)) rfl) rfl rfl ?_
      refine V_want (q_ge rfl rfl rfl) rfl rfl ?_
      rw [decide_eq_true hnu]
      refine V_q (q_pick rfl rfl rfl rfl) rfl rfl ?_
      refine V_q (q_mov rfl rfl) rfl rfl ?_
      refine V_want (q_fa rfl fd112_6 rfl) rfl rfl ?_
      refine V_want (q_ld rfl ty3 rfl (by repeat (first | with_reducible exact Sel.head | apply Sel.tail)) rfl) rfl rfl ?_
      refine V_want (q_ge rfl rfl rfl) rfl rfl ?_
      rw [decide_eq_true htg.1]
      refine V_q (q_pick rfl rfl rfl rfl) rfl rfl ?_
      refine V_q (q_mov rfl rfl) rfl rfl ?_
      refine V_want (q_fa rfl fd112_6 rfl) rfl rfl ?_
      refine V_want (q_ld rfl ty3 rfl (by repeat (first | with_reducible exact Sel.head | apply Sel.tail)) rfl) rfl rfl ?_
      refine V_want (q_le rfl rfl rfl) rfl rfl ?_
      rw [decide_eq_true htg.2]
      refine V_q (q_pick rfl rfl rfl rfl) rfl rfl ?_
      refine V_q (q_asg rfl rfl) rfl rfl ?_
      refine V_next (fun _ => rfl) ?_
      exact T_ret fun w h => ⟨_, res_1 rfl, (), trivial, rfl, h.pick (by repeat (first | with_reducible exact Pick.nil | apply Pick.cons (by repeat (first | with_reducible exact Sel.head | apply Sel.tail)))) (by simp)⟩
    · refine T_skip_next (fun _ => rfl) ?_
      have hd := hp.dev
      have hnu := hp.num
      have htg := hp.tag
      refine T_seq (T_reg rfl ?_)
      refine V_q (q_fa rfl fd112_5 rfl) rfl rfl ?_
      refine V_q (q_ld rfl ty3 rfl (by repeat (first | with_reducible exact Sel.head | apply Sel.tail)) rfl) rfl rfl ?_
      refine V_q (q_ge rfl rfl rfl) rfl rfl ?_
      rw [decide_eq_true hd.1]
      refine V_q (q_mov rfl rfl) rfl rfl ?_
      refine V_want (q_fa rfl fd112_5 rfl) rfl rfl ?_
      refine V_want (q_ld rfl ty3 rfl (by repeat (first | with_reducible exact Sel.head | apply Sel.tail)) rfl) rfl rfl ?_
      refine V_want (q_mov rfl rfl) rfl rfl ?_
      refine V_want (q_lt rfl rfl rfl) rfl rfl ?_
      rw [decide_eq_true hd.2]
      refine V_q (q_pick rfl rfl rfl rfl) rfl rfl ?_
      refine V_q (q_mov rfl rfl) rfl rfl ?_
      refine V_want (q_fa rfl fd112_4 rfl) rfl rfl ?_
      refine V_want (q_ld rfl ty3 rfl (by repeat (first | with_reducible exact Sel.head | apply Sel.tail)) rfl) rfl rfl ?_
      refine V_want (q_ge rfl rfl rfl) rfl rfl ?_
      rw [decide_eq_true hnu]
      refine V_q (q_pick rfl rfl rfl rfl) rfl rfl ?_
      refine V_q (q_mov rfl rfl) rfl rfl ?_
      refine V_want (q_fa rfl fd112_6 rfl) rfl rfl ?_
      refine V_want (q_ld rfl ty3 rfl (by repeat (first | with_reducible exact Sel.head | apply Sel.tail)) rfl) rfl rfl ?_
      refine V_want (q_ge rfl rfl rfl) rfl rfl ?_
      rw [decide_eq_true htg.1]
      refine V_q (q_pick rfl rfl rfl rfl) rfl rfl ?_
      refine V_q (q_mov rfl rfl) rfl rfl ?_
      refine V_want (q_fa rfl fd112_6 rfl) rfl rfl ?_
      refine V_want (q_ld rfl ty3 rfl (by repeat (first | with_reducible exact Sel.head | apply Sel.tail)) rfl) rfl rfl ?_
      refine V_want (q_le rfl rfl rfl) rfl rfl ?_
      rw [decide_eq_true htg.2]
      refine V_q (q_pick rfl rfl rfl rfl) rfl rfl ?_
      refine V_q (q_asg rfl rfl) rfl rfl ?_
      refine V_next (fun _ => rfl) ?_
      exact T_ret fun w h => ⟨_, res_1 rfl, (), trivial, rfl, h.pick (by repeat (first | with_reducible exact Pick.nil | apply Pick.cons (by repeat (first | with_reducible exact Sel.head | apply Sel.tail)))) (by simp)⟩
  have hin : k < n0 := by
    have : (k : Int) < n0 := by simpa using hb
    omega
  clear hb
  have hx := hp.ins i.inn[k] (List.getElem_mem (by omega))
  have hs := (wE_some q i.inn[k]).2 hx
  refine T_skip_next (fun _ => rfl) ?_
  refine T_seq ?_
  refine T_block ?_
  refine T_seq (T_reg rfl ?_)
  refine V_q (q_iaN rfl Tryz.underlying22 ty3 rfl rfl (by omega) (by repeat (first | with_reducible exact In.head | apply In.tail))) rfl rfl ?_
  refine V_q (q_ldN rfl ty3 rfl (by repeat (first | with_reducible exact In.head | apply In.tail)) (by omega)) rfl rfl ?_
  refine V_q (q_asg rfl rfl) rfl rfl ?_
  refine V_next (fun _ => rfl) ?_
  rw [getD_get (by omega)]
  refine T_seq (T_reg rfl ?_)
  refine V_q (q_mov rfl rfl) rfl rfl ?_
  refine V_q (q_mov rfl rfl) rfl rfl ?_
  refine V_q (q_lookup2E i.inn[k] rfl Tryz.underlying167 ktI tz169 rfl rfl (by repeat (first | with_reducible exact Sel.head | apply Sel.tail)) (wE_val q _) hs) rfl rfl ?_
  refine V_q (q_mov rfl rfl) rfl rfl ?_
  refine V_q (q_ext rfl rfl rfl) rfl rfl ?_
  refine V_q (q_ext rfl rfl rfl) rfl rfl ?_
  refine V_l (l_alloc (cs := []) rfl tz169 rfl) rfl rfl ?_; rintro g9 -
  refine V_n (l_st rfl ty169 rfl rfl rfl rfl rfl (by repeat (first | with_reducible exact Put.head | apply Put.tail)) (by repeat (first | exact PutL.z | apply PutL.s | apply PutL.t))) rfl rfl ?_; rintro ⟨⟩ -
  refine V_q (q_asg rfl rfl) rfl rfl ?_
  refine V_next (fun _ => rfl) ?_
  refine T_seq (T_reg rfl ?_)
  refine V_q (q_mov rfl rfl) rfl rfl ?_
  refine V_q (q_not rfl rfl) rfl rfl ?_
  refine V_next (fun _ => rfl) ?_
  refine T_cond rfl (fun hb => ?_) (fun hb => ?_)
  · cases hb
  refine T_skip_next (fun _ => rfl) ?_
  refine T_reg rfl ?_
  refine V_q (q_addI rfl rfl rfl (by omega)) rfl rfl ?_
  refine V_q (q_mov rfl rfl) rfl rfl ?_
  refine V_nil ?_
  exact fun w h => ⟨k + 1, ⟨by omega, by omega⟩, ⟨rfl, rfl, rfl, rfl, rfl, rfl, trivial⟩, h.pick (by repeat (first | with_reducible exact Pick.nil | apply Pick.cons (by repeat (first | with_reducible exact Sel.head | apply Sel.tail)))) (by simp)⟩
end Go.Proofs.YtgbhegmhbeekpaaGreat
