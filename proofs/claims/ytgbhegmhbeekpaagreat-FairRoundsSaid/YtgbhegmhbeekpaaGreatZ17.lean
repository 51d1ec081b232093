/-
  Nodes that go number by number: their shapes.
-/
import Derived.Test.YtgbhegmhbeekpaaGreatZ16
namespace Go.Proofs.YtgbhegmhbeekpaaGreat
open Go
set_option maxRecDepth 100000

abbrev askC (k : Int) : List Value := [.int .i64 k, .bool false, .bool false, .bool false, .bool false, .bool false]

theorem c_asks1 (op : Int) (h : op = 4 ∨ op = 5) : Con Tryz.prog 192 #[.int .i64 op] [] []
    (fun _ : Unit => True) (fun _ => .tuple #[.agg (askC 1).toArray, .bool true]) (fun _ => []) (fun _ => []) := by
  refine con_of (n := 50) Tryz.func192 rfl rfl rfl (by simp) ?_
  intro C hC
  refine T_seq (T_reg rfl ?_)
  refine V_l (l_alloc (cs := [.int .i64 0, .bool false, .bool false, .bool false, .bool false, .bool false]) rfl tz246 rfl) rfl rfl ?_; rintro g2 -
  refine V_q (q_asg rfl rfl) rfl rfl ?_
  refine V_next (fun _ => rfl) ?_
  refine T_seq ?_
  refine T_seq (T_reg rfl ?_)
  refine V_q (q_mov rfl rfl) rfl rfl ?_
  refine V_next (fun _ => rfl) ?_
  refine T_block ?_
  refine T_seq (T_reg rfl ?_)
  refine V_q (q_eq rfl rfl rfl) rfl rfl ?_
  refine V_q (q_asg rfl rfl) rfl rfl ?_
  refine V_next (fun _ => rfl) ?_
  refine T_condF rfl (decide_eq_false (by omega)) ?_
  refine T_seq (T_reg rfl ?_)
  refine V_q (q_eq rfl rfl rfl) rfl rfl ?_
  refine V_q (q_asg rfl rfl) rfl rfl ?_
  refine V_next (fun _ => rfl) ?_
  refine T_condF rfl (decide_eq_false (by omega)) ?_
  refine T_seq (T_reg rfl ?_)
  refine V_q (q_eq rfl rfl rfl) rfl rfl ?_
  refine V_q (q_asg rfl rfl) rfl rfl ?_
  refine V_next (fun _ => rfl) ?_
  refine T_condF rfl (decide_eq_false (by omega)) ?_
  refine T_cut (fun y : Bool => [(2, .pointer (some ⟨g2, 0, none⟩)), (4, .int .i64 op), (14, .bool y)]) (fun _ => [rBlk g2 246 (askC 0)]) (fun _ => []) (fun y => y = true) ?_ ?_
  · refine T_seq (T_reg rfl ?_)
    refine V_q (q_eq rfl rfl rfl) rfl rfl ?_
    refine V_q (q_asg rfl rfl) rfl rfl ?_
    refine V_next (fun _ => rfl) ?_
    refine T_cond rfl (fun hb => ?_) (fun hb => ?_)
    · exact T_skip fun w h => ⟨true, rfl, ⟨rfl, rfl, by rw [hb]; rfl, trivial⟩, h⟩
    · have h4 : ¬ op = 4 := by simpa using hb
      refine T_reg rfl ?_
      refine V_q (q_eq rfl rfl rfl) rfl rfl ?_
      refine V_q (q_asg rfl rfl) rfl rfl ?_
      refine V_nil ?_
      exact fun w h => ⟨decide (op = 5), by simp; omega, ⟨rfl, rfl, rfl, trivial⟩, h⟩
  rintro b rfl
  refine T_condT rfl rfl ?_
  refine T_seq (T_reg rfl ?_)
  refine V_q (q_buildS rfl pl246 tz246 rfl rfl (by repeat (first | exact FillL.nil | apply FillL.cons rfl rfl (by repeat (first | exact PutL.z | apply PutL.s | apply PutL.t))))) rfl rfl ?_
  refine V_n (l_st rfl ty246 rfl rfl rfl rfl rfl (by repeat (first | with_reducible exact Put.head | apply Put.tail)) (by repeat (first | exact PutL.z | apply PutL.s | apply PutL.t))) rfl rfl ?_; rintro ⟨⟩ -
  refine V_q (q_asg rfl rfl) rfl rfl ?_
  refine V_next (fun _ => rfl) ?_
  exact T_ret fun w h => ⟨_, res_ct rfl ty246 rfl (h.res (by repeat (first | with_reducible exact Sel.head | apply Sel.tail))) rfl, (), trivial, rfl, h.weak (List.nil_sublist _) (by simp)⟩

theorem c_asks2 (op : Int) (h : 6 ≤ op ∧ op ≤ 11) : Con Tryz.prog 192 #[.int .i64 op] [] []
    (fun _ : Unit => True) (fun _ => .tuple #[.agg (askC 2).toArray, .bool true]) (fun _ => []) (fun _ => []) := by
  refine con_of (n := 50) Tryz.func192 rfl rfl rfl (by simp) ?_
  intro C hC
  refine T_seq (T_reg rfl ?_)
  refine V_l (l_alloc (cs := [.int .i64 0, .bool false, .bool false, .bool false, .bool false, .bool false]) rfl tz246 rfl) rfl rfl ?_; rintro g2 -
  refine V_q (q_asg rfl rfl) rfl rfl ?_
  refine V_next (fun _ => rfl) ?_
  refine T_seq ?_
  refine T_seq (T_reg rfl ?_)
  refine V_q (q_mov rfl rfl) rfl rfl ?_
  refine V_next (fun _ => rfl) ?_
  refine T_block ?_
  refine T_seq (T_reg rfl ?_)
  refine V_q (q_eq rfl rfl rfl) rfl rfl ?_
  refine V_q (q_asg rfl rfl) rfl rfl ?_
  refine V_next (fun _ => rfl) ?_
  refine T_condF rfl (decide_eq_false (by omega)) ?_
  refine T_seq (T_reg rfl ?_)
  refine V_q (q_eq rfl rfl rfl) rfl rfl ?_
  refine V_q (q_asg rfl rfl) rfl rfl ?_
  refine V_next (fun _ => rfl) ?_
  refine T_condF rfl (decide_eq_false (by omega)) ?_
  refine T_seq (T_reg rfl ?_)
  refine V_q (q_eq rfl rfl rfl) rfl rfl ?_
  refine V_q (q_asg rfl rfl) rfl rfl ?_
  refine V_next (fun _ => rfl) ?_
  refine T_condF rfl (decide_eq_false (by omega)) ?_
  refine T_seq ?_
  refine T_seq (T_reg rfl ?_)
  refine V_q (q_eq rfl rfl rfl) rfl rfl ?_
  refine V_q (q_asg rfl rfl) rfl rfl ?_
  refine V_next (fun _ => rfl) ?_
  refine T_condF rfl (decide_eq_false (by omega)) ?_
  refine T_reg rfl ?_
  refine V_q (q_eq rfl rfl rfl) rfl rfl ?_
  refine V_q (q_asg rfl rfl) rfl rfl ?_
  refine V_next (fun _ => rfl) ?_
  refine T_condF rfl (decide_eq_false (by omega)) ?_
  refine T_cut (fun y : Bool => [(2, .pointer (some ⟨g2, 0, none⟩)), (4, .int .i64 op), (18, .bool y)]) (fun _ => [rBlk g2 246 (askC 0)]) (fun _ => []) (fun y => y = true) ?_ ?_
  · refine T_seq (T_reg rfl ?_)
    refine V_q (q_eq rfl rfl rfl) rfl rfl ?_
    refine V_q (q_asg rfl rfl) rfl rfl ?_
    refine V_next (fun _ => rfl) ?_
    refine T_cond rfl (fun hb => ?_) (fun hb => ?_)
    · exact T_skip fun w h => ⟨true, rfl, ⟨rfl, rfl, by rw [hb]; rfl, trivial⟩, h⟩
    · have h6 : ¬ op = 6 := by simpa using hb
      refine T_seq (T_reg rfl ?_)
      refine V_q (q_eq rfl rfl rfl) rfl rfl ?_
      refine V_q (q_asg rfl rfl) rfl rfl ?_
      refine V_next (fun _ => rfl) ?_
      refine T_cond rfl (fun hb => ?_) (fun hb => ?_)
      · exact T_skip fun w h => ⟨true, rfl, ⟨rfl, rfl, by rw [hb]; rfl, trivial⟩, h⟩
      · have h7 : ¬ op = 7 := by simpa using hb
        refine T_seq (T_reg rfl ?_)
        refine V_q (q_eq rfl rfl rfl) rfl rfl ?_
        refine V_q (q_asg rfl rfl) rfl rfl ?_
        refine V_next (fun _ => rfl) ?_
        refine T_cond rfl (fun hb => ?_) (fun hb => ?_)
        · exact T_skip fun w h => ⟨true, rfl, ⟨rfl, rfl, by rw [hb]; rfl, trivial⟩, h⟩
        · have h8 : ¬ op = 8 := by simpa using hb
          refine T_seq (T_reg rfl ?_)
          refine V_q (q_eq rfl rfl rfl) rfl rfl ?_
          refine V_q (q_asg rfl rfl) rfl rfl ?_
          refine V_next (fun _ => rfl) ?_
          refine T_cond rfl (fun hb => ?_) (fun hb => ?_)
          · exact T_skip fun w h => ⟨true, rfl, ⟨rfl, rfl, by rw [hb]; rfl, trivial⟩, h⟩
          · have h9 : ¬ op = 9 := by simpa using hb
            refine T_seq (T_reg rfl ?_)
            refine V_q (q_eq rfl rfl rfl) rfl rfl ?_
            refine V_q (q_asg rfl rfl) rfl rfl ?_
            refine V_next (fun _ => rfl) ?_
            refine T_cond rfl (fun hb => ?_) (fun hb => ?_)
            · exact T_skip fun w h => ⟨true, rfl, ⟨rfl, rfl, by rw [hb]; rfl, trivial⟩, h⟩
            · have h10 : ¬ op = 10 := by simpa using hb
              refine T_reg rfl ?_
              refine V_q (q_eq rfl rfl rfl) rfl rfl ?_
              refine V_q (q_asg rfl rfl) rfl rfl ?_
              refine V_nil ?_
              exact fun w h => ⟨decide (op = 11), by simp; omega, ⟨rfl, rfl, rfl, trivial⟩, h⟩
  rintro b rfl
  refine T_condT rfl rfl ?_
  refine T_seq (T_reg rfl ?_)
  refine V_q (q_buildS rfl pl246 tz246 rfl rfl (by repeat (first | exact FillL.nil | apply FillL.cons rfl rfl (by repeat (first | exact PutL.z | apply PutL.s | apply PutL.t))))) rfl rfl ?_
  refine V_n (l_st rfl ty246 rfl rfl rfl rfl rfl (by repeat (first | with_reducible exact Put.head | apply Put.tail)) (by repeat (first | exact PutL.z | apply PutL.s | apply PutL.t))) rfl rfl ?_; rintro ⟨⟩ -
  refine V_q (q_asg rfl rfl) rfl rfl ?_
  refine V_next (fun _ => rfl) ?_
  exact T_ret fun w h => ⟨_, res_ct rfl ty246 rfl (h.res (by repeat (first | with_reducible exact Sel.head | apply Sel.tail))) rfl, (), trivial, rfl, h.weak (List.nil_sublist _) (by simp)⟩

theorem c_asked1 (op : Int) (a1 a2 a3 : Option Addr) (n1 c1 n2 c2 n3 c3 : Nat) (note : ByteArray) (ha : Con Tryz.prog 192 #[.int .i64 op] [] [] (fun _ : Unit => True) (fun _ => .tuple #[.agg (askC 1).toArray, .bool true]) (fun _ => []) (fun _ => [])) :
    Con Tryz.prog 145 #[.agg #[.int .i64 op, .slice a1 n1 c1, .slice a2 n2 c2, .slice a3 n3 c3, .int .i64 0, .int .i64 0, .string note], .int .i64 ((1 : Nat) : Int)] [] [aSl I [] a2 n2 c2, aSl I [] a3 n3 c3]
    (fun _ : Unit => True) (fun _ => .bool true) (fun _ => []) (fun _ => []) := by
  refine con_of (n := 68) Tryz.func145 rfl rfl rfl (by simp) ?_
  intro C hC
  refine T_pure (φ := n2 = 0 ∧ n3 = 0) (fun w h => ⟨(sl_len h (xs := []) (a := a2) (n := n2) (c := c2) (by repeat (first | with_reducible exact In.head | apply In.tail))).1, (sl_len h (xs := []) (a := a3) (n := n3) (c := c3) (by repeat (first | with_reducible exact In.head | apply In.tail))).1⟩) (fun hl => ?_)
  obtain ⟨rfl, rfl⟩ := hl
  refine T_seq (T_reg rfl ?_)
  refine V_l (l_boxA rfl rfl) rfl rfl ?_; rintro g2 -
  refine V_q (q_asg rfl rfl) rfl rfl ?_
  refine V_next (fun _ => rfl) ?_
  refine T_seq (T_reg rfl ?_)
  refine V_q (q_fa rfl fd35_0 rfl) rfl rfl ?_
  refine V_q (q_ld rfl ty3 rfl (by repeat (first | with_reducible exact Sel.head | apply Sel.tail)) rfl) rfl rfl ?_
  refine V_l (l_call rfl ent192 rfl (ha) (by repeat (first | with_reducible exact Pick.nil | apply Pick.cons (by repeat (first | with_reducible exact Sel.head | apply Sel.tail)))) (by repeat (first | with_reducible exact Ins.nil | refine Ins.cons (by repeat (first | with_reducible exact In.head | apply In.tail)) ?_)) (fun _ => (by repeat (first | with_reducible exact App.nil | apply App.cons))) (fun _ => (by repeat (first | with_reducible exact App.nil | apply App.cons)))) rfl rfl ?_; rintro g10 -
  refine V_q (q_mov rfl rfl) rfl rfl ?_
  refine V_q (q_ext rfl rfl rfl) rfl rfl ?_
  refine V_q (q_ext rfl rfl rfl) rfl rfl ?_
  refine V_l (l_alloc (cs := [.int .i64 0, .bool false, .bool false, .bool false, .bool false, .bool false]) rfl tz246 rfl) rfl rfl ?_; rintro g5 -
  refine V_n (l_st rfl ty246 rfl rfl rfl rfl rfl (by repeat (first | with_reducible exact Put.head | apply Put.tail)) (by repeat (first | exact PutL.z | apply PutL.s | apply PutL.t))) rfl rfl ?_; rintro ⟨⟩ -
  refine V_q (q_asg rfl rfl) rfl rfl ?_
  refine V_next (fun _ => rfl) ?_
  refine T_seq ?_
  refine T_seq (T_reg rfl ?_)
  refine V_q (q_mov rfl rfl) rfl rfl ?_
  refine V_q (q_not rfl rfl) rfl rfl ?_
  refine V_q (q_mov rfl rfl) rfl rfl ?_
  refine V_want (q_mov rfl rfl) rfl rfl ?_
  refine V_want (q_fa rfl fd246_0 rfl) rfl rfl ?_
  refine V_want (q_ld rfl ty3 rfl (by repeat (first | with_reducible exact Sel.head | apply Sel.tail)) rfl) rfl rfl ?_
  refine V_want (q_lt rfl rfl rfl) rfl rfl ?_
  refine V_q (q_pick rfl rfl rfl rfl) rfl rfl ?_
  refine V_q (q_mov rfl rfl) rfl rfl ?_
  refine V_want (q_mov rfl rfl) rfl rfl ?_
  refine V_want (q_fa rfl fd246_0 rfl) rfl rfl ?_
  refine V_want (q_ld rfl ty3 rfl (by repeat (first | with_reducible exact Sel.head | apply Sel.tail)) rfl) rfl rfl ?_
  refine V_want (q_gt rfl rfl rfl) rfl rfl ?_
  refine V_want (q_mov rfl rfl) rfl rfl ?_
  refine V_skip rfl rfl ?_
  refine V_skip rfl rfl ?_
  refine V_skip rfl rfl ?_
  refine V_want (q_pick rfl rfl rfl rfl) rfl rfl ?_
  refine V_q (q_pick rfl rfl rfl rfl) rfl rfl ?_
  refine V_next (fun _ => rfl) ?_
  refine T_cond rfl (fun hb => ?_) (fun hb => ?_)
  · simp at hb
  refine T_skip_next (fun _ => rfl) ?_
  refine T_seq (T_reg rfl ?_)
  refine V_q (q_fa rfl fd246_2 rfl) rfl rfl ?_
  refine V_q (q_ld rfl ty4 rfl (by repeat (first | with_reducible exact Sel.head | apply Sel.tail)) rfl) rfl rfl ?_
  refine V_q (q_mov rfl rfl) rfl rfl ?_
  refine V_want (q_fa rfl fd35_2 rfl) rfl rfl ?_
  refine V_want (q_ld rfl ty22 rfl (by repeat (first | with_reducible exact Sel.head | apply Sel.tail)) rfl) rfl rfl ?_
  refine V_want (q_len rfl Tryz.underlying22 rfl) rfl rfl ?_
  refine V_want (q_eq rfl rfl rfl) rfl rfl ?_
  refine V_q (q_pick rfl rfl rfl rfl) rfl rfl ?_
  refine V_q (q_mov rfl rfl) rfl rfl ?_
  refine V_want (q_fa rfl fd246_3 rfl) rfl rfl ?_
  refine V_want (q_ld rfl ty4 rfl (by repeat (first | with_reducible exact Sel.head | apply Sel.tail)) rfl) rfl rfl ?_
  refine V_want (q_mov rfl rfl) rfl rfl ?_
  refine V_want (q_fa rfl fd35_3 rfl) rfl rfl ?_
  refine V_want (q_ld rfl ty22 rfl (by repeat (first | with_reducible exact Sel.head | apply Sel.tail)) rfl) rfl rfl ?_
  refine V_want (q_len rfl Tryz.underlying22 rfl) rfl rfl ?_
  refine V_want (q_eq rfl rfl rfl) rfl rfl ?_
  refine V_want (q_pick rfl rfl rfl rfl) rfl rfl ?_
  refine V_q (q_pick rfl rfl rfl rfl) rfl rfl ?_
  refine V_q (q_mov rfl rfl) rfl rfl ?_
  refine V_want (q_fa rfl fd246_4 rfl) rfl rfl ?_
  refine V_want (q_ld rfl ty4 rfl (by repeat (first | with_reducible exact Sel.head | apply Sel.tail)) rfl) rfl rfl ?_
  refine V_want (q_mov rfl rfl) rfl rfl ?_
  refine V_want (q_fa rfl fd35_4 rfl) rfl rfl ?_
  refine V_want (q_ld rfl ty2 rfl (by repeat (first | with_reducible exact Sel.head | apply Sel.tail)) rfl) rfl rfl ?_
  refine V_want (q_eq rfl rfl rfl) rfl rfl ?_
  refine V_want (q_pick rfl rfl rfl rfl) rfl rfl ?_
  refine V_q (q_pick rfl rfl rfl rfl) rfl rfl ?_
  refine V_q (q_mov rfl rfl) rfl rfl ?_
  refine V_want (q_fa rfl fd246_5 rfl) rfl rfl ?_
  refine V_want (q_ld rfl ty4 rfl (by repeat (first | with_reducible exact Sel.head | apply Sel.tail)) rfl) rfl rfl ?_
  refine V_want (q_mov rfl rfl) rfl rfl ?_
  refine V_want (q_fa rfl fd35_5 rfl) rfl rfl ?_
  refine V_want (q_ld rfl ty3 rfl (by repeat (first | with_reducible exact Sel.head | apply Sel.tail)) rfl) rfl rfl ?_
  refine V_want (q_eq rfl rfl rfl) rfl rfl ?_
  refine V_want (q_pick rfl rfl rfl rfl) rfl rfl ?_
  refine V_q (q_pick rfl rfl rfl rfl) rfl rfl ?_
  refine V_q (q_asg rfl rfl) rfl rfl ?_
  refine V_next (fun _ => rfl) ?_
  exact T_ret fun w h => ⟨_, res_1 rfl, (), trivial, rfl, h.weak (List.nil_sublist _) (by simp)⟩
theorem c_asked2 (op : Int) (a1 a2 a3 : Option Addr) (n1 c1 n2 c2 n3 c3 : Nat) (note : ByteArray) (ha : Con Tryz.prog 192 #[.int .i64 op] [] [] (fun _ : Unit => True) (fun _ => .tuple #[.agg (askC 2).toArray, .bool true]) (fun _ => []) (fun _ => [])) :
    Con Tryz.prog 145 #[.agg #[.int .i64 op, .slice a1 n1 c1, .slice a2 n2 c2, .slice a3 n3 c3, .int .i64 0, .int .i64 0, .string note], .int .i64 ((2 : Nat) : Int)] [] [aSl I [] a2 n2 c2, aSl I [] a3 n3 c3]
    (fun _ : Unit => True) (fun _ => .bool true) (fun _ => []) (fun _ => []) := by
  refine con_of (n := 68) Tryz.func145 rfl rfl rfl (by simp) ?_
  intro C hC
  refine T_pure (φ := n2 = 0 ∧ n3 = 0) (fun w h => ⟨(sl_len h (xs := []) (a := a2) (n := n2) (c := c2) (by repeat (first | with_reducible exact In.head | apply In.tail))).1, (sl_len h (xs := []) (a := a3) (n := n3) (c := c3) (by repeat (first | with_reducible exact In.head | apply In.tail))).1⟩) (fun hl => ?_)
  obtain ⟨rfl, rfl⟩ := hl
  refine T_seq (T_reg rfl ?_)
  refine V_l (l_boxA rfl rfl) rfl rfl ?_; rintro g2 -
  refine V_q (q_asg rfl rfl) rfl rfl ?_
  refine V_next (fun _ => rfl) ?_
  refine T_seq (T_reg rfl ?_)
  refine V_q (q_fa rfl fd35_0 rfl) rfl rfl ?_
  refine V_q (q_ld rfl ty3 rfl (by repeat (first | with_reducible exact Sel.head | apply Sel.tail)) rfl) rfl rfl ?_
  refine V_l (l_call rfl ent192 rfl (ha) (by repeat (first | with_reducible exact Pick.nil | apply Pick.cons (by repeat (first | with_reducible exact Sel.head | apply Sel.tail)))) (by repeat (first | with_reducible exact Ins.nil | refine Ins.cons (by repeat (first | with_reducible exact In.head | apply In.tail)) ?_)) (fun _ => (by repeat (first | with_reducible exact App.nil | apply App.cons))) (fun _ => (by repeat (first | with_reducible exact App.nil | apply App.cons)))) rfl rfl ?_; rintro g10 -
  refine V_q (q_mov rfl rfl) rfl rfl ?_
  refine V_q (q_ext rfl rfl rfl) rfl rfl ?_
  refine V_q (q_ext rfl rfl rfl) rfl rfl ?_
  refine V_l (l_alloc (cs := [.int .i64 0, .bool false, .bool false, .bool false, .bool false, .bool false]) rfl tz246 rfl) rfl rfl ?_; rintro g5 -
  refine V_n (l_st rfl ty246 rfl rfl rfl rfl rfl (by repeat (first | with_reducible exact Put.head | apply Put.tail)) (by repeat (first | exact PutL.z | apply PutL.s | apply PutL.t))) rfl rfl ?_; rintro ⟨⟩ -
  refine V_q (q_asg rfl rfl) rfl rfl ?_
  refine V_next (fun _ => rfl) ?_
  refine T_seq ?_
  refine T_seq (T_reg rfl ?_)
  refine V_q (q_mov rfl rfl) rfl rfl ?_
  refine V_q (q_not rfl rfl) rfl rfl ?_
  refine V_q (q_mov rfl rfl) rfl rfl ?_
  refine V_want (q_mov rfl rfl) rfl rfl ?_
  refine V_want (q_fa rfl fd246_0 rfl) rfl rfl ?_
  refine V_want (q_ld rfl ty3 rfl (by repeat (first | with_reducible exact Sel.head | apply Sel.tail)) rfl) rfl rfl ?_
  refine V_want (q_lt rfl rfl rfl) rfl rfl ?_
  refine V_q (q_pick rfl rfl rfl rfl) rfl rfl ?_
  refine V_q (q_mov rfl rfl) rfl rfl ?_
  refine V_want (q_mov rfl rfl) rfl rfl ?_
  refine V_want (q_fa rfl fd246_0 rfl) rfl rfl ?_
  refine V_want (q_ld rfl ty3 rfl (by repeat (first | with_reducible exact Sel.head | apply Sel.tail)) rfl) rfl rfl ?_
  refine V_want (q_gt rfl rfl rfl) rfl rfl ?_
  refine V_want (q_mov rfl rfl) rfl rfl ?_
  refine V_skip rfl rfl ?_
  refine V_skip rfl rfl ?_
  refine V_skip rfl rfl ?_
  refine V_want (q_pick rfl rfl rfl rfl) rfl rfl ?_
  refine V_q (q_pick rfl rfl rfl rfl) rfl rfl ?_
  refine V_next (fun _ => rfl) ?_
  refine T_cond rfl (fun hb => ?_) (fun hb => ?_)
  · simp at hb
  refine T_skip_next (fun _ => rfl) ?_
  refine T_seq (T_reg rfl ?_)
  refine V_q (q_fa rfl fd246_2 rfl) rfl rfl ?_
  refine V_q (q_ld rfl ty4 rfl (by repeat (first | with_reducible exact Sel.head | apply Sel.tail)) rfl) rfl rfl ?_
  refine V_q (q_mov rfl rfl) rfl rfl ?_
  refine V_want (q_fa rfl fd35_2 rfl) rfl rfl ?_
  refine V_want (q_ld rfl ty22 rfl (by repeat (first | with_reducible exact Sel.head | apply Sel.tail)) rfl) rfl rfl ?_
  refine V_want (q_len rfl Tryz.underlying22 rfl) rfl rfl ?_
  refine V_want (q_eq rfl rfl rfl) rfl rfl ?_
  refine V_q (q_pick rfl rfl rfl rfl) rfl rfl ?_
  refine V_q (q_mov rfl rfl) rfl rfl ?_
  refine V_want (q_fa rfl fd246_3 rfl) rfl rfl ?_
  refine V_want (q_ld rfl ty4 rfl (by repeat (first | with_reducible exact Sel.head | apply Sel.tail)) rfl) rfl rfl ?_
  refine V_want (q_mov rfl rfl) rfl rfl ?_
  refine V_want (q_fa rfl fd35_3 rfl) rfl rfl ?_
  refine V_want (q_ld rfl ty22 rfl (by repeat (first | with_reducible exact Sel.head | apply Sel.tail)) rfl) rfl rfl ?_
  refine V_want (q_len rfl Tryz.underlying22 rfl) rfl rfl ?_
  refine V_want (q_eq rfl rfl rfl) rfl rfl ?_
  refine V_want (q_pick rfl rfl rfl rfl) rfl rfl ?_
  refine V_q (q_pick rfl rfl rfl rfl) rfl rfl ?_
  refine V_q (q_mov rfl rfl) rfl rfl ?_
  refine V_want (q_fa rfl fd246_4 rfl) rfl rfl ?_
  refine V_want (q_ld rfl ty4 rfl (by repeat (first | with_reducible exact Sel.head | apply Sel.tail)) rfl) rfl rfl ?_
  refine V_want (q_mov rfl rfl) rfl rfl ?_
  refine V_want (q_fa rfl fd35_4 rfl) rfl rfl ?_
  refine V_want (q_ld rfl ty2 rfl (by repeat (first | with_reducible exact Sel.head | apply Sel.tail)) rfl) rfl rfl ?_
  refine V_want (q_eq rfl rfl rfl) rfl rfl ?_
  refine V_want (q_pick rfl rfl rfl rfl) rfl rfl ?_
  refine V_q (q_pick rfl rfl rfl rfl) rfl rfl ?_
  refine V_q (q_mov rfl rfl) rfl rfl ?_
  refine V_want (q_fa rfl fd246_5 rfl) rfl rfl ?_
  refine V_want (q_ld rfl ty4 rfl (by repeat (first | with_reducible exact Sel.head | apply Sel.tail)) rfl) rfl rfl ?_
  refine V_want (q_mov rfl rfl) rfl rfl ?_
  refine V_want (q_fa rfl fd35_5 rfl) rfl rfl ?_
  refine V_want (q_ld rfl ty3 rfl (by repeat (first | with_reducible exact Sel.head | apply Sel.tail)) rfl) rfl rfl ?_
  refine V_want (q_eq rfl rfl rfl) rfl rfl ?_
  refine V_want (q_pick rfl rfl rfl rfl) rfl rfl ?_
  refine V_q (q_pick rfl rfl rfl rfl) rfl rfl ?_
  refine V_q (q_asg rfl rfl) rfl rfl ?_
  refine V_next (fun _ => rfl) ?_
  exact T_ret fun w h => ⟨_, res_1 rfl, (), trivial, rfl, h.weak (List.nil_sublist _) (by simp)⟩
theorem c_asked (op : Int) (n : Nat) (h : (n = 1 ∧ (op = 4 ∨ op = 5)) ∨ (n = 2 ∧ 6 ≤ op ∧ op ≤ 11)) (a1 a2 a3 : Option Addr) (n1 c1 n2 c2 n3 c3 : Nat) (note : ByteArray) :
    Con Tryz.prog 145 #[.agg #[.int .i64 op, .slice a1 n1 c1, .slice a2 n2 c2, .slice a3 n3 c3, .int .i64 0, .int .i64 0, .string note], .int .i64 (n : Int)] [] [aSl I [] a2 n2 c2, aSl I [] a3 n3 c3]
    (fun _ : Unit => True) (fun _ => .bool true) (fun _ => []) (fun _ => []) := by
  rcases h with ⟨rfl, h⟩ | ⟨rfl, h⟩
  · exact c_asked1 op a1 a2 a3 n1 c1 n2 c2 n3 c3 note (c_asks1 op h)
  · exact c_asked2 op a1 a2 a3 n1 c1 n2 c2 n3 c3 note (c_asks2 op h)

theorem c_shapeOf (op : Int) (h : 4 ≤ op ∧ op ≤ 11) (xs : List (List Int)) (s : List Int) (a1 a2 a3 a : Option Addr) (n1 c1 n2 c2 n3 c3 n c : Nat) (note : ByteArray) (h0 : xs[0]? = some s) (hs : ∀ x ∈ xs, x = s) :
    Con Tryz.prog 148 #[.agg #[.int .i64 op, .slice a1 n1 c1, .slice a2 n2 c2, .slice a3 n3 c3, .int .i64 0, .int .i64 0, .string note], .slice a n c] [] [aSl (rSl I) xs a n c]
    (fun _ : Option Addr × Nat × Nat => True) (fun y => .tuple #[.slice y.1 y.2.1 y.2.2, .int .i64 0]) (fun _ => []) (fun y => [aSl I s y.1 y.2.1 y.2.2]) := by
  refine con_of (n := 101) Tryz.func148 rfl rfl rfl (by simp) ?_
  intro C hC
  refine T_seq (T_reg rfl ?_)
  refine V_l (l_boxA rfl rfl) rfl rfl ?_; rintro g2 -
  refine V_q (q_asg rfl rfl) rfl rfl ?_
  refine V_q (q_asg rfl rfl) rfl rfl ?_
  refine V_next (fun _ => rfl) ?_
  refine T_seq ?_
  refine T_seq (T_reg rfl ?_)
  refine V_q (q_fa rfl fd35_0 rfl) rfl rfl ?_
  refine V_q (q_ld rfl ty3 rfl (by repeat (first | with_reducible exact Sel.head | apply Sel.tail)) rfl) rfl rfl ?_
  refine V_next (fun _ => rfl) ?_
  refine T_block ?_
  refine T_seq ?_
  refine T_seq (T_reg rfl ?_)
  refine V_q (q_eq rfl rfl rfl) rfl rfl ?_
  refine V_q (q_asg rfl rfl) rfl rfl ?_
  refine V_next (fun _ => rfl) ?_
  refine T_condF rfl (decide_eq_false (by omega)) ?_
  refine T_seq (T_reg rfl ?_)
  refine V_q (q_eq rfl rfl rfl) rfl rfl ?_
  refine V_q (q_asg rfl rfl) rfl rfl ?_
  refine V_next (fun _ => rfl) ?_
  refine T_condF rfl (decide_eq_false (by omega)) ?_
  refine T_reg rfl ?_
  refine V_q (q_eq rfl rfl rfl) rfl rfl ?_
  refine V_q (q_asg rfl rfl) rfl rfl ?_
  refine V_next (fun _ => rfl) ?_
  refine T_condF rfl (decide_eq_false (by omega)) ?_
  refine T_seq (T_reg rfl ?_)
  refine V_q (q_eq rfl rfl rfl) rfl rfl ?_
  refine V_q (q_asg rfl rfl) rfl rfl ?_
  refine V_next (fun _ => rfl) ?_
  refine T_condF rfl (decide_eq_false (by omega)) ?_
  refine T_seq (T_reg rfl ?_)
  refine V_q (q_eq rfl rfl rfl) rfl rfl ?_
  refine V_q (q_asg rfl rfl) rfl rfl ?_
  refine V_next (fun _ => rfl) ?_
  refine T_condF rfl (decide_eq_false (by omega)) ?_
  refine T_seq ?_
  refine T_seq (T_reg rfl ?_)
  refine V_q (q_eq rfl rfl rfl) rfl rfl ?_
  refine V_q (q_asg rfl rfl) rfl rfl ?_
  refine V_next (fun _ => rfl) ?_
  refine T_condF rfl (decide_eq_false (by omega)) ?_
  refine T_reg rfl ?_
  refine V_q (q_eq rfl rfl rfl) rfl rfl ?_
  refine V_q (q_asg rfl rfl) rfl rfl ?_
  refine V_next (fun _ => rfl) ?_
  refine T_condF rfl (decide_eq_false (by omega)) ?_
  refine T_seq ?_
  refine T_seq (T_reg rfl ?_)
  refine V_q (q_eq rfl rfl rfl) rfl rfl ?_
  refine V_q (q_asg rfl rfl) rfl rfl ?_
  refine V_next (fun _ => rfl) ?_
  refine T_condF rfl (decide_eq_false (by omega)) ?_
  refine T_reg rfl ?_
  refine V_q (q_eq rfl rfl rfl) rfl rfl ?_
  refine V_q (q_asg rfl rfl) rfl rfl ?_
  refine V_next (fun _ => rfl) ?_
  refine T_condF rfl (decide_eq_false (by omega)) ?_
  refine T_seq (T_reg rfl ?_)
  refine V_q (q_eq rfl rfl rfl) rfl rfl ?_
  refine V_q (q_asg rfl rfl) rfl rfl ?_
  refine V_next (fun _ => rfl) ?_
  refine T_condF rfl (decide_eq_false (by omega)) ?_
  refine T_seq (T_reg rfl ?_)
  refine V_q (q_eq rfl rfl rfl) rfl rfl ?_
  refine V_q (q_asg rfl rfl) rfl rfl ?_
  refine V_next (fun _ => rfl) ?_
  refine T_condF rfl (decide_eq_false (by omega)) ?_
  refine T_skip_next (fun _ => rfl) ?_
  refine T_seq (T_reg rfl ?_)
  refine V_q (q_mov rfl rfl) rfl rfl ?_
  refine V_l (l_call rfl ent202 rfl (c_alike xs s a n c h0 hs) (by repeat (first | with_reducible exact Pick.nil | apply Pick.cons (by repeat (first | with_reducible exact Sel.head | apply Sel.tail)))) (by repeat (first | with_reducible exact Ins.nil | refine Ins.cons (by repeat (first | with_reducible exact In.head | apply In.tail)) ?_)) (fun _ => (by repeat (first | with_reducible exact App.nil | apply App.cons))) (fun _ => (by repeat (first | with_reducible exact App.nil | apply App.cons)))) rfl rfl ?_; rintro ⟨b, m, d⟩ -
  refine V_q (q_ext rfl rfl rfl) rfl rfl ?_
  refine V_q (q_ext rfl rfl rfl) rfl rfl ?_
  refine V_q (q_asg rfl rfl) rfl rfl ?_
  refine V_q (q_asg rfl rfl) rfl rfl ?_
  refine V_next (fun _ => rfl) ?_
  exact T_ret fun w h => ⟨_, res_2 rfl rfl, (b, m, d), trivial, rfl, h.weak (List.nil_sublist _) (by simp)⟩

theorem c_gShape (op : Int) (xs : List (List Int)) (s : List Int) (a1 a2 a3 a : Option Addr) (n1 c1 n2 c2 n3 c3 n c : Nat) (note : ByteArray) (h : (n = 1 ∧ (op = 4 ∨ op = 5)) ∨ (n = 2 ∧ 6 ≤ op ∧ op ≤ 11)) (h0 : xs[0]? = some s) (hs : ∀ x ∈ xs, x = s) (hok : shOk s = true) (hsl : s.length ≤ 1000) :
    Con Tryz.prog 112 #[.agg #[.int .i64 op, .slice a1 n1 c1, .slice a2 n2 c2, .slice a3 n3 c3, .int .i64 0, .int .i64 0, .string note], .slice a n c] [] [aSl I [] a2 n2 c2, aSl I [] a3 n3 c3, aSl (rSl I) xs a n c]
    (fun _ : Option Addr × Nat × Nat => True) (fun y => .tuple #[.slice y.1 y.2.1 y.2.2, .int .i64 0]) (fun _ => []) (fun y => [aSl I s y.1 y.2.1 y.2.2]) := by
  refine con_of (n := 26) Tryz.func112 rfl rfl rfl (by simp) ?_
  intro C hC
  refine T_seq (T_reg rfl ?_)
  refine V_l (l_boxA rfl rfl) rfl rfl ?_; rintro g2 -
  refine V_q (q_asg rfl rfl) rfl rfl ?_
  refine V_q (q_asg rfl rfl) rfl rfl ?_
  refine V_next (fun _ => rfl) ?_
  refine T_seq ?_
  refine T_seq (T_reg rfl ?_)
  refine V_q (q_ldA rfl ty35 rfl (by repeat (first | with_reducible exact Sel.head | apply Sel.tail)) (by repeat (first | exact SubL.z | apply SubL.s | apply SubL.t))) rfl rfl ?_
  refine V_q (q_mov rfl rfl) rfl rfl ?_
  refine V_q (q_len rfl Tryz.underlying86 rfl) rfl rfl ?_
  refine V_l (l_call rfl ent145 rfl (c_asked op n h a1 a2 a3 n1 c1 n2 c2 n3 c3 note) (by repeat (first | with_reducible exact Pick.nil | apply Pick.cons (by repeat (first | with_reducible exact Sel.head | apply Sel.tail)))) (by repeat (first | with_reducible exact Ins.nil | refine Ins.cons (by repeat (first | with_reducible exact In.head | apply In.tail)) ?_)) (fun _ => (by repeat (first | with_reducible exact App.nil | apply App.cons))) (fun _ => (by repeat (first | with_reducible exact App.nil | apply App.cons)))) rfl rfl ?_; rintro g11 -
  refine V_q (q_not rfl rfl) rfl rfl ?_
  refine V_next (fun _ => rfl) ?_
  refine T_cond rfl (fun hb => ?_) (fun hb => ?_)
  · cases hb
  refine T_skip_next (fun _ => rfl) ?_
  refine T_seq ?_
  refine T_seq (T_reg rfl ?_)
  refine V_q (q_mov rfl rfl) rfl rfl ?_
  refine V_l (l_call rfl ent146 rfl (c_ContS 147 [] [] [] xs a n c ent147 (fun x v hx => c_gShape1 x v (by rw [hs x hx]; exact hok))) (by repeat (first | with_reducible exact Pick.nil | apply Pick.cons (by repeat (first | with_reducible exact Sel.head | apply Sel.tail)))) (by repeat (first | with_reducible exact Ins.nil | refine Ins.cons (by repeat (first | with_reducible exact In.head | apply In.tail)) ?_)) (fun _ => (by repeat (first | with_reducible exact App.nil | apply App.cons))) (fun _ => (by repeat (first | with_reducible exact App.nil | apply App.cons)))) rfl rfl ?_; rintro g14 -
  refine V_next (fun _ => rfl) ?_
  refine T_cond rfl (fun hb => ?_) (fun hb => ?_)
  · cases hb
  refine T_skip_next (fun _ => rfl) ?_
  refine T_seq (T_reg rfl ?_)
  refine V_q (q_ldA rfl ty35 rfl (by repeat (first | with_reducible exact Sel.head | apply Sel.tail)) (by repeat (first | exact SubL.z | apply SubL.s | apply SubL.t))) rfl rfl ?_
  refine V_q (q_mov rfl rfl) rfl rfl ?_
  refine V_l (l_call rfl ent148 rfl (c_shapeOf op (by omega) xs s a1 a2 a3 a n1 c1 n2 c2 n3 c3 n c note h0 hs) (by repeat (first | with_reducible exact Pick.nil | apply Pick.cons (by repeat (first | with_reducible exact Sel.head | apply Sel.tail)))) (by repeat (first | with_reducible exact Ins.nil | refine Ins.cons (by repeat (first | with_reducible exact In.head | apply In.tail)) ?_)) (fun _ => (by repeat (first | with_reducible exact App.nil | apply App.cons))) (fun _ => (by repeat (first | with_reducible exact App.nil | apply App.cons)))) rfl rfl ?_; rintro ⟨b, m, d⟩ -
  refine V_q (q_mov rfl rfl) rfl rfl ?_
  refine V_q (q_ext rfl rfl rfl) rfl rfl ?_
  refine V_q (q_ext rfl rfl rfl) rfl rfl ?_
  refine V_q (q_asg rfl rfl) rfl rfl ?_
  refine V_q (q_asg rfl rfl) rfl rfl ?_
  refine V_next (fun _ => rfl) ?_
  refine T_pure (φ := m ≤ 1000) (fun w h => by have := (sl_len h (xs := s) (a := b) (n := m) (c := d) (by repeat (first | with_reducible exact In.head | apply In.tail))).1; omega) (fun hm => ?_)
  refine T_seq ?_
  refine T_seq (T_reg rfl ?_)
  refine V_q (q_mov rfl rfl) rfl rfl ?_
  refine V_q (q_ne rfl rfl rfl) rfl rfl ?_
  refine V_next (fun _ => rfl) ?_
  refine T_cond rfl (fun hb => ?_) (fun hb => ?_)
  · simp at hb
  refine T_skip_next (fun _ => rfl) ?_
  refine T_seq (T_reg rfl ?_)
  refine V_q (q_mov rfl rfl) rfl rfl ?_
  refine V_l (l_call rfl ent90 rfl (c_CloneI s b m d (by omega)) (by repeat (first | with_reducible exact Pick.nil | apply Pick.cons (by repeat (first | with_reducible exact Sel.head | apply Sel.tail)))) (by repeat (first | with_reducible exact Ins.nil | refine Ins.cons (by repeat (first | with_reducible exact In.head | apply In.tail)) ?_)) (fun _ => (by repeat (first | with_reducible exact App.nil | apply App.cons))) (fun _ => (by repeat (first | with_reducible exact App.nil | apply App.cons)))) rfl rfl ?_; rintro ⟨b', d'⟩ -
  refine V_q (q_asg rfl rfl) rfl rfl ?_
  refine V_q (q_asg rfl rfl) rfl rfl ?_
  refine V_next (fun _ => rfl) ?_
  exact T_ret fun w h => ⟨_, res_2 rfl rfl, (b', m, d'), trivial, rfl, h.weak (List.nil_sublist _) (by simp)⟩

theorem c_shapes (xs : List Tn) (a : Option Addr) (n c : Nat) (hn : n ≤ 1000) (hx : ∀ x ∈ xs, tnOk x = true) : Con Tryz.prog 119 #[.slice a n c] [] [aSl rTn xs a n c]
    (fun _ : Option Addr × Nat => True) (fun y => .tuple #[.slice y.1 n y.2, .bool true]) (fun _ => []) (fun y => [aSl (rSl I) (xs.map (·.sh)) y.1 n y.2]) := by
  refine con_of (n := 23) Tryz.func119 rfl rfl rfl (by simp) ?_
  intro C hC
  refine T_pure (φ := n = xs.length) (fun w h => (sl_len h (xs := xs) (a := a) (n := n) (c := c) (by repeat (first | with_reducible exact In.head | apply In.tail))).1) (fun hln => ?_)
  refine T_seq (T_reg rfl ?_)
  refine V_q (q_asg rfl rfl) rfl rfl ?_
  refine V_q (q_asg rfl rfl) rfl rfl ?_
  refine V_next (fun _ => rfl) ?_
  refine T_seq (T_reg rfl ?_)
  refine V_q (q_asg rfl rfl) rfl rfl ?_
  refine V_next (fun _ => rfl) ?_
  refine T_ghost (fun w h => h.rowNil 22 1) ?_
  refine T_seq ?_
  refine T_seq (T_reg rfl ?_)
  refine V_q (q_mov rfl rfl) rfl rfl ?_
  refine V_q (q_len rfl Tryz.underlying77 rfl) rfl rfl ?_
  refine V_q (q_mov rfl rfl) rfl rfl ?_
  refine V_next (fun _ => rfl) ?_
  refine T_block ?_
  refine T_loop (fun y : Nat × Value × List Value => [(4, y.2.1), (7, .slice a n c), (8, .int .i64 n), (9, .int .i64 y.1)]) (fun y => [rOwn 22 1 y.2.1 y.1 y.2.2]) (fun y => [aEv (rSl I) ((xs.take y.1).map (·.sh)) y.2.2, aSl rTn xs a n c]) (fun y => y.1 ≤ n) (fun y => n - y.1) (0, .slice none 0 0, []) (Nat.zero_le _) ⟨rfl, rfl, rfl, rfl, trivial⟩ (fun w h => h.know (aEv (rSl I) _ _) (EvP.nil _ _ _)) ?_
  rintro ⟨k, v, cs⟩ hk
  replace hk : k ≤ n := hk
  refine T_seq (T_reg rfl ?_)
  refine V_q (q_lt rfl rfl rfl) rfl rfl ?_
  refine V_next (fun _ => rfl) ?_
  refine T_seq ?_
  refine T_cond rfl (fun hb => ?_) (fun hb => ?_)
  rotate_left
  · have hie : k = n := by
      have : ¬ (k : Int) < n := by simpa using hb
      omega
    subst hie
    refine T_exit_next (fun _ => rfl) ?_
    have htk : xs.take k = xs := List.take_of_length_le (by omega)
    rw [htk]
    refine T_seal (rSl I) (e := 22) (k := 1) rfl (by decide) (xs := xs.map (·.sh)) (v := v) (n := k) (cs := cs) (by repeat (first | with_reducible exact Sel.head | apply Sel.tail)) In.head fun a' c' hv => ?_
    subst hv
    refine T_seq (T_reg rfl ?_)
    refine V_q (q_mov rfl rfl) rfl rfl ?_
    refine V_q (q_asg rfl rfl) rfl rfl ?_
    refine V_q (q_asg rfl rfl) rfl rfl ?_
    refine V_next (fun _ => rfl) ?_
    exact T_ret fun w h => ⟨_, res_2 rfl rfl, (a', c'), trivial, rfl, h.weak (List.Sublist.refl _) (by simp)⟩
  have hin : k < n := by
    have : (k : Int) < n := by simpa using hb
    omega
  clear hb
  refine T_tn k (xs := xs) (a := a) (n := n) (c := c) (by repeat (first | with_reducible exact In.head | apply In.tail)) hin fun x ad pa pn pc qa qn qc hxk had => ?_
  have hok := hx x (List.mem_of_getElem? hxk)
  have ct := c_tensorRight x pa qa pn pc qn qc
  rw [hok] at ct
  refine T_skip_next (fun _ => rfl) ?_
  refine T_seq ?_
  refine T_block ?_
  refine T_seq (T_reg rfl ?_)
  refine V_q (q_iaE rfl Tryz.underlying77 ty28 rfl rfl hin had) rfl rfl ?_
  refine V_q (q_ldRA rfl ty28 rfl rfl (by repeat (first | with_reducible exact In.head | apply In.tail))) rfl rfl ?_
  refine V_l (l_alloc (cs := [.slice none 0 0, .slice none 0 0]) rfl tz28 rfl) rfl rfl ?_; rintro g6 -
  refine V_n (l_st rfl ty28 rfl rfl rfl rfl rfl (by repeat (first | with_reducible exact Put.head | apply Put.tail)) (by repeat (first | exact PutL.z | apply PutL.s | apply PutL.t))) rfl rfl ?_; rintro ⟨⟩ -
  refine V_next (fun _ => rfl) ?_
  refine T_seq ?_
  refine T_seq (T_reg rfl ?_)
  refine V_q (q_ldA rfl ty28 rfl (by repeat (first | with_reducible exact Sel.head | apply Sel.tail)) (by repeat (first | exact SubL.z | apply SubL.s | apply SubL.t))) rfl rfl ?_
  refine V_l (l_call rfl ent60 rfl (ct) (by repeat (first | with_reducible exact Pick.nil | apply Pick.cons (by repeat (first | with_reducible exact Sel.head | apply Sel.tail)))) (by repeat (first | with_reducible exact Ins.nil | refine Ins.cons (by repeat (first | with_reducible exact In.head | apply In.tail)) ?_)) (fun _ => (by repeat (first | with_reducible exact App.nil | apply App.cons))) (fun _ => (by repeat (first | with_reducible exact App.nil | apply App.cons)))) rfl rfl ?_; rintro g14 -
  refine V_q (q_not rfl rfl) rfl rfl ?_
  refine V_next (fun _ => rfl) ?_
  refine T_cond rfl (fun hb => ?_) (fun hb => ?_)
  · cases hb
  refine T_skip_next (fun _ => rfl) ?_
  refine T_reg rfl ?_
  refine V_q (q_mov rfl rfl) rfl rfl ?_
  refine V_q (q_fa rfl fd28_0 rfl) rfl rfl ?_
  refine V_q (q_ld rfl ty22 rfl (by repeat (first | with_reducible exact Sel.head | apply Sel.tail)) rfl) rfl rfl ?_
  refine V_l (l_bs [.slice none 0 0] rfl Tryz.underlying86 ty22 tz22 (by decide) rfl rfl rfl (by repeat (first | exact FillL.nil | apply FillL.cons rfl rfl (by repeat (first | exact PutL.z | apply PutL.s | apply PutL.t))))) rfl rfl ?_; rintro g19 -
  refine V_l (l_appBs rfl Tryz.underlying86 ty22 tz22 tb22 rfl (by decide) rfl rfl (by repeat (first | with_reducible exact Sel.head | apply Sel.tail)) (fun _ => (by repeat (first | with_reducible exact Put.head | apply Put.tail))) rfl rfl (by simp [maxLen]; omega) (by first | omega | (simp; omega))) rfl rfl ?_; rintro ⟨ra, rc⟩ -
  refine V_q (q_asg rfl rfl) rfl rfl ?_
  refine V_next (fun _ => rfl) ?_
  refine T_reg rfl ?_
  refine V_q (q_addI rfl rfl rfl (by omega)) rfl rfl ?_
  refine V_q (q_mov rfl rfl) rfl rfl ?_
  refine V_nil ?_
  intro w h
  have het : (xs.take (k + 1)).map (fun t : Tn => t.sh) = (xs.take k).map (fun t : Tn => t.sh) ++ [x.sh] := by rw [List.take_add_one, hxk, List.map_append]; rfl
  have h2 := h.know (aEv (rSl I) ((xs.take (k + 1)).map (fun t : Tn => t.sh)) (cs ++ [.slice pa pn pc])) (show EvP (rSl I) _ _ _ _ from by
    rw [het]
    exact EvP.snoc (show EvP (rSl I) _ _ _ _ from h.atom (A := aEv (rSl I) ((xs.take k).map (fun t : Tn => t.sh)) cs) (by repeat (first | with_reducible exact In.head | apply In.tail))) ⟨pa, pn, pc, rfl, h.atom (A := aSl I x.sh pa pn pc) (by repeat (first | with_reducible exact In.head | apply In.tail))⟩)
  exact ⟨(k + 1, .slice ra (k + 1) rc, cs ++ [.slice pa pn pc]), ⟨by show n - (k + 1) < n - k; omega, by show k + 1 ≤ n; omega⟩, ⟨rfl, rfl, rfl, rfl, trivial⟩, h2.pick (by repeat (first | with_reducible exact Pick.nil | apply Pick.cons (by repeat (first | with_reducible exact Sel.head | apply Sel.tail)))) (by simp)⟩
end Go.Proofs.YtgbhegmhbeekpaaGreat
