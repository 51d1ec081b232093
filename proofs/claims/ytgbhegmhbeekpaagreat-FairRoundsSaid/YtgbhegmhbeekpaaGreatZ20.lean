/-
  eval.Node on nodes that go number by number.
-/
import Derived.Test.YtgbhegmhbeekpaaGreatZ19
namespace Go.Proofs.YtgbhegmhbeekpaaGreat
open Go
set_option maxRecDepth 100000

theorem node1 (nd : Nd) (x : Tn) (hz : nd.sh = [] ∧ nd.a = [] ∧ nd.n = 0 ∧ nd.how = 0) (hop : nd.op = 4 ∨ nd.op = 5) (hx : tnOk x = true) : NodeCon nd [x] (ptw nd.op x x) := by
  obtain ⟨op, inn, sh, aa, nn, how, note⟩ := nd
  replace hz : sh = [] ∧ aa = [] ∧ nn = 0 ∧ how = 0 := hz
  obtain ⟨rfl, rfl, rfl, rfl⟩ := hz
  intro a1 a2 a3 a n1 c1 n2 c2 n3 c3 n c
  show Con _ _ #[.agg #[.int .i64 op, .slice a1 n1 c1, .slice a2 n2 c2, .slice a3 n3 c3, .int .i64 0, .int .i64 0, .string note], .slice a n c] [] [aSl I inn a1 n1 c1, aSl I [] a2 n2 c2, aSl I [] a3 n3 c3, aSl rTn [x] a n c] _ _ _ _
  refine con_of (n := 97) Tryz.func94 rfl rfl rfl (by simp) ?_
  intro C hC
  replace hop : op = 4 ∨ op = 5 := hop
  refine T_pure (φ := n = 1) (fun w h => (sl_len h (xs := [x]) (a := a) (n := n) (c := c) (by repeat (first | with_reducible exact In.head | apply In.tail))).1) (fun hn => ?_)
  subst hn
  have hn0 : 0 < 1 := by decide
  refine T_tn 0 (xs := [x]) (a := a) (n := 1) (c := c) (by repeat (first | with_reducible exact In.head | apply In.tail)) hn0 fun z ad pa pn pc qa qn qc hzx had => ?_
  have hzx' : x = z := by simpa using hzx
  subst hzx'
  have hl := tnOk_len hx
  refine T_seq (T_reg rfl ?_)
  refine V_l (l_boxA rfl rfl) rfl rfl ?_; rintro g2 -
  refine V_l (l_alloc (cs := [.slice none 0 0, .slice none 0 0]) rfl tz28 rfl) rfl rfl ?_; rintro g4 -
  refine V_q (q_asg rfl rfl) rfl rfl ?_
  refine V_next (fun _ => rfl) ?_
  refine T_seq (T_reg rfl ?_)
  refine V_q (q_mov rfl rfl) rfl rfl ?_
  refine V_l (l_call rfl ent119 rfl (c_shapes [x] a 1 c (by omega) (by intro y hy; rw [List.mem_singleton.1 hy]; exact hx)) (by repeat (first | with_reducible exact Pick.nil | apply Pick.cons (by repeat (first | with_reducible exact Sel.head | apply Sel.tail)))) (by repeat (first | with_reducible exact Ins.nil | refine Ins.cons (by repeat (first | with_reducible exact In.head | apply In.tail)) ?_)) (fun _ => (by repeat (first | with_reducible exact App.nil | apply App.cons))) (fun _ => (by repeat (first | with_reducible exact App.nil | apply App.cons)))) rfl rfl ?_; rintro ⟨la, lc⟩ -
  refine V_q (q_mov rfl rfl) rfl rfl ?_
  refine V_q (q_ext rfl rfl rfl) rfl rfl ?_
  refine V_q (q_ext rfl rfl rfl) rfl rfl ?_
  refine V_q (q_asg rfl rfl) rfl rfl ?_
  refine V_q (q_asg rfl rfl) rfl rfl ?_
  refine V_next (fun _ => rfl) ?_
  refine T_seq ?_
  refine T_seq (T_reg rfl ?_)
  refine V_q (q_mov rfl rfl) rfl rfl ?_
  refine V_q (q_not rfl rfl) rfl rfl ?_
  refine V_next (fun _ => rfl) ?_
  refine T_cond rfl (fun hb => ?_) (fun hb => ?_)
  · cases hb
  refine T_skip_next (fun _ => rfl) ?_
  refine T_seq ?_
  refine T_seq (T_reg rfl ?_)
  refine V_q (q_ldA rfl ty35 rfl (by repeat (first | with_reducible exact Sel.head | apply Sel.tail)) (by repeat (first | exact SubL.z | apply SubL.s | apply SubL.t))) rfl rfl ?_
  refine V_q (q_mov rfl rfl) rfl rfl ?_
  refine V_l (l_call rfl ent112 rfl (c_gShape op ([x].map (·.sh)) x.sh a1 a2 a3 la n1 c1 n2 c2 n3 c3 1 lc note (.inl ⟨rfl, hop⟩) rfl (by simp) hl.2.2.2 (by omega)) (by repeat (first | with_reducible exact Pick.nil | apply Pick.cons (by repeat (first | with_reducible exact Sel.head | apply Sel.tail)))) (by repeat (first | with_reducible exact Ins.nil | refine Ins.cons (by repeat (first | with_reducible exact In.head | apply In.tail)) ?_)) (fun _ => (by repeat (first | with_reducible exact App.nil | apply App.cons))) (fun _ => (by repeat (first | with_reducible exact App.nil | apply App.cons)))) rfl rfl ?_; rintro ⟨za, zm, zc⟩ -
  refine V_q (q_mov rfl rfl) rfl rfl ?_
  refine V_q (q_ext rfl rfl rfl) rfl rfl ?_
  refine V_q (q_ext rfl rfl rfl) rfl rfl ?_
  refine V_q (q_asg rfl rfl) rfl rfl ?_
  refine V_q (q_asg rfl rfl) rfl rfl ?_
  refine V_next (fun _ => rfl) ?_
  refine T_seq (T_reg rfl ?_)
  refine V_q (q_mov rfl rfl) rfl rfl ?_
  refine V_q (q_ne rfl rfl rfl) rfl rfl ?_
  refine V_next (fun _ => rfl) ?_
  refine T_cond rfl (fun hb => ?_) (fun hb => ?_)
  · simp at hb
  refine T_skip_next (fun _ => rfl) ?_
  refine T_seq ?_
  refine T_seq (T_reg rfl ?_)
  refine V_q (q_fa rfl fd35_0 rfl) rfl rfl ?_
  refine V_q (q_ld rfl ty3 rfl (by repeat (first | with_reducible exact Sel.head | apply Sel.tail)) rfl) rfl rfl ?_
  refine V_next (fun _ => rfl) ?_
  refine T_block ?_
  refine T_seq (T_reg rfl ?_)
  refine V_q (q_eq rfl rfl rfl) rfl rfl ?_
  refine V_q (q_asg rfl rfl) rfl rfl ?_
  refine V_next (fun _ => rfl) ?_
  refine T_condF rfl (decide_eq_false (by omega)) ?_
  refine T_seq (T_reg rfl ?_)
  refine V_q (q_eq rfl rfl rfl) rfl rfl ?_
  refine V_q (q_asg rfl rfl) rfl rfl ?_
  refine V_next (fun _ => rfl) ?_
  refine T_condF rfl (decide_eq_false (by omega)) ?_
  refine T_seq (T_reg rfl ?_)
  refine V_q (q_eq rfl rfl rfl) rfl rfl ?_
  refine V_q (q_asg rfl rfl) rfl rfl ?_
  refine V_next (fun _ => rfl) ?_
  refine T_condF rfl (decide_eq_false (by omega)) ?_
  refine T_seq ?_
  refine T_seq (T_reg rfl ?_)
  refine V_q (q_eq rfl rfl rfl) rfl rfl ?_
  refine V_q (q_asg rfl rfl) rfl rfl ?_
  refine V_next (fun _ => rfl) ?_
  by_cases h4 : op = 4
  · refine T_condT rfl (decide_eq_true (by omega)) ?_
    refine T_skip_next (fun _ => rfl) ?_
    refine T_condT rfl (decide_eq_true (by omega)) ?_
    refine T_seq (T_drawn hmix (.pure 0 <| .quiet 1 <| .pure 2 <| .pure 3 <| .quiet 4 <| .bar 5 <| .pure 6 <| .pure 7 <| .bar 8 <| .pure 9 <| .fin) (by decide +kernel) ?_)
    refine W_p rfl (q_fa rfl fd35_0 rfl) rfl rfl ?_
    refine W_ld rfl rfl ty3 rfl (by repeat (first | with_reducible exact Sel.head | apply Sel.tail)) rfl rfl rfl ?_
    refine W_p rfl (q_mov rfl rfl) rfl rfl ?_
    refine W_p rfl (q_iaE rfl Tryz.underlying77 ty28 (i := 0) rfl rfl hn0 had) rfl rfl ?_
    refine W_a rfl (q_ldRA rfl ty28 rfl rfl (by repeat (first | with_reducible exact In.head | apply In.tail))) rfl rfl ?_
    refine W_b rfl (l_call rfl ent122 rfl (c_One op x hop hx pa qa pn pc qn qc) (by repeat (first | with_reducible exact Pick.nil | apply Pick.cons (by repeat (first | with_reducible exact Sel.head | apply Sel.tail)))) (by repeat (first | with_reducible exact Ins.nil | refine Ins.cons (by repeat (first | with_reducible exact In.head | apply In.tail)) ?_)) (fun _ => (by repeat (first | with_reducible exact App.nil | apply App.cons))) (fun _ => (by repeat (first | with_reducible exact App.nil | apply App.cons)))) rfl rfl ?_; rintro ⟨⟨ra, rn, rc⟩, sa', sn, sc⟩ -
    refine W_p rfl (q_ext rfl rfl rfl) rfl rfl ?_
    refine W_p rfl (q_ext rfl rfl rfl) rfl rfl ?_
    refine W_bn rfl (l_st rfl ty28 rfl rfl rfl rfl rfl (by repeat (first | with_reducible exact Put.head | apply Put.tail)) (by repeat (first | exact PutL.z | apply PutL.s | apply PutL.t))) rfl rfl ?_; rintro ⟨⟩ -
    refine W_p rfl (q_asg rfl rfl) rfl rfl ?_
    refine W_next (fun _ => rfl) ?_
    exact T_ret fun w h => ⟨_, res_ct rfl ty28 rfl (h.res (by repeat (first | with_reducible exact Sel.head | apply Sel.tail))) rfl, ((ra, rn, rc), sa', sn, sc), trivial, rfl, h.weak (List.nil_sublist _) (by simp)⟩
  · refine T_condF rfl (decide_eq_false (by omega)) ?_
    refine T_reg rfl ?_
    refine V_q (q_eq rfl rfl rfl) rfl rfl ?_
    refine V_q (q_asg rfl rfl) rfl rfl ?_
    refine V_next (fun _ => rfl) ?_
    refine T_condT rfl (decide_eq_true (by omega)) ?_
    refine T_seq (T_drawn hmix (.pure 0 <| .quiet 1 <| .pure 2 <| .pure 3 <| .quiet 4 <| .bar 5 <| .pure 6 <| .pure 7 <| .bar 8 <| .pure 9 <| .fin) (by decide +kernel) ?_)
    refine W_p rfl (q_fa rfl fd35_0 rfl) rfl rfl ?_
    refine W_ld rfl rfl ty3 rfl (by repeat (first | with_reducible exact Sel.head | apply Sel.tail)) rfl rfl rfl ?_
    refine W_p rfl (q_mov rfl rfl) rfl rfl ?_
    refine W_p rfl (q_iaE rfl Tryz.underlying77 ty28 (i := 0) rfl rfl hn0 had) rfl rfl ?_
    refine W_a rfl (q_ldRA rfl ty28 rfl rfl (by repeat (first | with_reducible exact In.head | apply In.tail))) rfl rfl ?_
    refine W_b rfl (l_call rfl ent122 rfl (c_One op x hop hx pa qa pn pc qn qc) (by repeat (first | with_reducible exact Pick.nil | apply Pick.cons (by repeat (first | with_reducible exact Sel.head | apply Sel.tail)))) (by repeat (first | with_reducible exact Ins.nil | refine Ins.cons (by repeat (first | with_reducible exact In.head | apply In.tail)) ?_)) (fun _ => (by repeat (first | with_reducible exact App.nil | apply App.cons))) (fun _ => (by repeat (first | with_reducible exact App.nil | apply App.cons)))) rfl rfl ?_; rintro ⟨⟨ra, rn, rc⟩, sa', sn, sc⟩ -
    refine W_p rfl (q_ext rfl rfl rfl) rfl rfl ?_
    refine W_p rfl (q_ext rfl rfl rfl) rfl rfl ?_
    refine W_bn rfl (l_st rfl ty28 rfl rfl rfl rfl rfl (by repeat (first | with_reducible exact Put.head | apply Put.tail)) (by repeat (first | exact PutL.z | apply PutL.s | apply PutL.t))) rfl rfl ?_; rintro ⟨⟩ -
    refine W_p rfl (q_asg rfl rfl) rfl rfl ?_
    refine W_next (fun _ => rfl) ?_
    exact T_ret fun w h => ⟨_, res_ct rfl ty28 rfl (h.res (by repeat (first | with_reducible exact Sel.head | apply Sel.tail))) rfl, ((ra, rn, rc), sa', sn, sc), trivial, rfl, h.weak (List.nil_sublist _) (by simp)⟩

theorem node2 (nd : Nd) (x y : Tn) (hz : nd.sh = [] ∧ nd.a = [] ∧ nd.n = 0 ∧ nd.how = 0) (hop : 6 ≤ nd.op ∧ nd.op ≤ 11) (hx : tnOk x = true) (hy : tnOk y = true) (hs : x.sh = y.sh) : NodeCon nd [x, y] (ptw nd.op x y) := by
  obtain ⟨op, inn, sh, aa, nn, how, note⟩ := nd
  replace hz : sh = [] ∧ aa = [] ∧ nn = 0 ∧ how = 0 := hz
  obtain ⟨rfl, rfl, rfl, rfl⟩ := hz
  intro a1 a2 a3 a n1 c1 n2 c2 n3 c3 n c
  show Con _ _ #[.agg #[.int .i64 op, .slice a1 n1 c1, .slice a2 n2 c2, .slice a3 n3 c3, .int .i64 0, .int .i64 0, .string note], .slice a n c] [] [aSl I inn a1 n1 c1, aSl I [] a2 n2 c2, aSl I [] a3 n3 c3, aSl rTn [x, y] a n c] _ _ _ _
  refine con_of (n := 97) Tryz.func94 rfl rfl rfl (by simp) ?_
  intro C hC
  replace hop : 6 ≤ op ∧ op ≤ 11 := hop
  refine T_pure (φ := n = 2) (fun w h => (sl_len h (xs := [x, y]) (a := a) (n := n) (c := c) (by repeat (first | with_reducible exact In.head | apply In.tail))).1) (fun hn => ?_)
  subst hn
  have hn0 : 0 < 2 := by decide
  have hn1 : 1 < 2 := by decide
  refine T_tn 0 (xs := [x, y]) (a := a) (n := 2) (c := c) (by repeat (first | with_reducible exact In.head | apply In.tail)) hn0 fun z ad pa pn pc qa qn qc hzx had => ?_
  have hzx' : x = z := by simpa using hzx
  subst hzx'
  refine T_tn 1 (xs := [x, y]) (a := a) (n := 2) (c := c) (by repeat (first | with_reducible exact In.head | apply In.tail)) hn1 fun z ad1 ra1 rn1 rc1 sa1 sn1 sc1 hzx1 had1 => ?_
  have hzx1' : y = z := by simpa using hzx1
  subst hzx1'
  have hl := tnOk_len hx
  refine T_seq (T_reg rfl ?_)
  refine V_l (l_boxA rfl rfl) rfl rfl ?_; rintro g2 -
  refine V_l (l_alloc (cs := [.slice none 0 0, .slice none 0 0]) rfl tz28 rfl) rfl rfl ?_; rintro g4 -
  refine V_q (q_asg rfl rfl) rfl rfl ?_
  refine V_next (fun _ => rfl) ?_
  have hxy : ∀ z ∈ [x, y], tnOk z = true := by
    intro z hz
    rcases List.mem_cons.1 hz with rfl | hz
    · exact hx
    · rw [List.mem_singleton.1 hz]; exact hy
  refine T_seq (T_reg rfl ?_)
  refine V_q (q_mov rfl rfl) rfl rfl ?_
  refine V_l (l_call rfl ent119 rfl (c_shapes [x, y] a 2 c (by omega) hxy) (by repeat (first | with_reducible exact Pick.nil | apply Pick.cons (by repeat (first | with_reducible exact Sel.head | apply Sel.tail)))) (by repeat (first | with_reducible exact Ins.nil | refine Ins.cons (by repeat (first | with_reducible exact In.head | apply In.tail)) ?_)) (fun _ => (by repeat (first | with_reducible exact App.nil | apply App.cons))) (fun _ => (by repeat (first | with_reducible exact App.nil | apply App.cons)))) rfl rfl ?_; rintro ⟨la, lc⟩ -
  refine V_q (q_mov rfl rfl) rfl rfl ?_
  refine V_q (q_ext rfl rfl rfl) rfl rfl ?_
  refine V_q (q_ext rfl rfl rfl) rfl rfl ?_
  refine V_q (q_asg rfl rfl) rfl rfl ?_
  refine V_q (q_asg rfl rfl) rfl rfl ?_
  refine V_next (fun _ => rfl) ?_
  refine T_seq ?_
  refine T_seq (T_reg rfl ?_)
  refine V_q (q_mov rfl rfl) rfl rfl ?_
  refine V_q (q_not rfl rfl) rfl rfl ?_
  refine V_next (fun _ => rfl) ?_
  refine T_cond rfl (fun hb => ?_) (fun hb => ?_)
  · cases hb
  refine T_skip_next (fun _ => rfl) ?_
  refine T_seq ?_
  refine T_seq (T_reg rfl ?_)
  refine V_q (q_ldA rfl ty35 rfl (by repeat (first | with_reducible exact Sel.head | apply Sel.tail)) (by repeat (first | exact SubL.z | apply SubL.s | apply SubL.t))) rfl rfl ?_
  refine V_q (q_mov rfl rfl) rfl rfl ?_
  refine V_l (l_call rfl ent112 rfl (c_gShape op ([x, y].map (·.sh)) x.sh a1 a2 a3 la n1 c1 n2 c2 n3 c3 2 lc note (.inr ⟨rfl, hop⟩) rfl (by simp [hs]) hl.2.2.2 (by omega)) (by repeat (first | with_reducible exact Pick.nil | apply Pick.cons (by repeat (first | with_reducible exact Sel.head | apply Sel.tail)))) (by repeat (first | with_reducible exact Ins.nil | refine Ins.cons (by repeat (first | with_reducible exact In.head | apply In.tail)) ?_)) (fun _ => (by repeat (first | with_reducible exact App.nil | apply App.cons))) (fun _ => (by repeat (first | with_reducible exact App.nil | apply App.cons)))) rfl rfl ?_; rintro ⟨za, zm, zc⟩ -
  refine V_q (q_mov rfl rfl) rfl rfl ?_
  refine V_q (q_ext rfl rfl rfl) rfl rfl ?_
  refine V_q (q_ext rfl rfl rfl) rfl rfl ?_
  refine V_q (q_asg rfl rfl) rfl rfl ?_
  refine V_q (q_asg rfl rfl) rfl rfl ?_
  refine V_next (fun _ => rfl) ?_
  refine T_seq (T_reg rfl ?_)
  refine V_q (q_mov rfl rfl) rfl rfl ?_
  refine V_q (q_ne rfl rfl rfl) rfl rfl ?_
  refine V_next (fun _ => rfl) ?_
  refine T_cond rfl (fun hb => ?_) (fun hb => ?_)
  · simp at hb
  refine T_skip_next (fun _ => rfl) ?_
  refine T_seq ?_
  refine T_seq (T_reg rfl ?_)
  refine V_q (q_fa rfl fd35_0 rfl) rfl rfl ?_
  refine V_q (q_ld rfl ty3 rfl (by repeat (first | with_reducible exact Sel.head | apply Sel.tail)) rfl) rfl rfl ?_
  refine V_next (fun _ => rfl) ?_
  refine T_block ?_
  refine T_seq (T_reg rfl ?_)
  refine V_q (q_eq rfl rfl rfl) rfl rfl ?_
  refine V_q (q_asg rfl rfl) rfl rfl ?_
  refine V_next (fun _ => rfl) ?_
  refine T_condF rfl (decide_eq_false (by omega)) ?_
  refine T_seq (T_reg rfl ?_)
  refine V_q (q_eq rfl rfl rfl) rfl rfl ?_
  refine V_q (q_asg rfl rfl) rfl rfl ?_
  refine V_next (fun _ => rfl) ?_
  refine T_condF rfl (decide_eq_false (by omega)) ?_
  refine T_seq (T_reg rfl ?_)
  refine V_q (q_eq rfl rfl rfl) rfl rfl ?_
  refine V_q (q_asg rfl rfl) rfl rfl ?_
  refine V_next (fun _ => rfl) ?_
  refine T_condF rfl (decide_eq_false (by omega)) ?_
  refine T_seq ?_
  refine T_seq (T_reg rfl ?_)
  refine V_q (q_eq rfl rfl rfl) rfl rfl ?_
  refine V_q (q_asg rfl rfl) rfl rfl ?_
  refine V_next (fun _ => rfl) ?_
  refine T_condF rfl (decide_eq_false (by omega)) ?_
  refine T_reg rfl ?_
  refine V_q (q_eq rfl rfl rfl) rfl rfl ?_
  refine V_q (q_asg rfl rfl) rfl rfl ?_
  refine V_next (fun _ => rfl) ?_
  refine T_condF rfl (decide_eq_false (by omega)) ?_
  refine T_seq (T_reg rfl ?_)
  refine V_q (q_eq rfl rfl rfl) rfl rfl ?_
  refine V_q (q_asg rfl rfl) rfl rfl ?_
  refine V_next (fun _ => rfl) ?_
  refine T_condF rfl (decide_eq_false (by omega)) ?_
  refine T_skip_next (fun _ => rfl) ?_
  refine T_seq ?_
  refine T_seq (T_reg rfl ?_)
  refine V_q (q_fa rfl fd35_0 rfl) rfl rfl ?_
  refine V_q (q_ld rfl ty3 rfl (by repeat (first | with_reducible exact Sel.head | apply Sel.tail)) rfl) rfl rfl ?_
  refine V_q (q_le rfl rfl rfl) rfl rfl ?_
  refine V_next (fun _ => rfl) ?_
  refine T_condT rfl (decide_eq_true (by omega)) ?_
  refine T_seq (T_drawn hmix (.pure 0 <| .quiet 1 <| .pure 2 <| .pure 3 <| .quiet 4 <| .pure 5 <| .pure 6 <| .quiet 7 <| .bar 8 <| .pure 9 <| .pure 10 <| .bar 11 <| .pure 12 <| .fin) (by decide +kernel) ?_)
  refine W_p rfl (q_fa rfl fd35_0 rfl) rfl rfl ?_
  refine W_ld rfl rfl ty3 rfl (by repeat (first | with_reducible exact Sel.head | apply Sel.tail)) rfl rfl rfl ?_
  refine W_p rfl (q_mov rfl rfl) rfl rfl ?_
  refine W_p rfl (q_iaE rfl Tryz.underlying77 ty28 (i := 0) rfl rfl hn0 had) rfl rfl ?_
  refine W_a rfl (q_ldRA rfl ty28 rfl rfl (by repeat (first | with_reducible exact In.head | apply In.tail))) rfl rfl ?_
  refine W_p rfl (q_mov rfl rfl) rfl rfl ?_
  refine W_p rfl (q_iaE rfl Tryz.underlying77 ty28 (i := 1) rfl rfl hn1 had1) rfl rfl ?_
  refine W_a rfl (q_ldRA rfl ty28 rfl rfl (by repeat (first | with_reducible exact In.head | apply In.tail))) rfl rfl ?_
  refine W_b rfl (l_call rfl ent124 rfl (c_Two op x y hop hx hy hs pa qa ra1 sa1 pn pc qn qc rn1 rc1 sn1 sc1) (by repeat (first | with_reducible exact Pick.nil | apply Pick.cons (by repeat (first | with_reducible exact Sel.head | apply Sel.tail)))) (by repeat (first | with_reducible exact Ins.nil | refine Ins.cons (by repeat (first | with_reducible exact In.head | apply In.tail)) ?_)) (fun _ => (by repeat (first | with_reducible exact App.nil | apply App.cons))) (fun _ => (by repeat (first | with_reducible exact App.nil | apply App.cons)))) rfl rfl ?_; rintro ⟨⟨ra, rn, rc⟩, sa', sn, sc⟩ -
  refine W_p rfl (q_ext rfl rfl rfl) rfl rfl ?_
  refine W_p rfl (q_ext rfl rfl rfl) rfl rfl ?_
  refine W_bn rfl (l_st rfl ty28 rfl rfl rfl rfl rfl (by repeat (first | with_reducible exact Put.head | apply Put.tail)) (by repeat (first | exact PutL.z | apply PutL.s | apply PutL.t))) rfl rfl ?_; rintro ⟨⟩ -
  refine W_p rfl (q_asg rfl rfl) rfl rfl ?_
  refine W_next (fun _ => rfl) ?_
  exact T_ret fun w h => ⟨_, res_ct rfl ty28 rfl (h.res (by repeat (first | with_reducible exact Sel.head | apply Sel.tail))) rfl, ((ra, rn, rc), sa', sn, sc), trivial, rfl, h.weak (List.nil_sublist _) (by simp)⟩

theorem nodeP (nd : Nd) (ins : List Tn) (v : Tn) (h : evP nd ins = some v) : NodeCon nd ins v := by
  unfold evP at h
  split at h
  · rename_i hz
    match ins, h with
    | [x], h =>
      simp only at h
      split at h
      · rename_i h1
        injection h with h
        rw [← h]
        exact node1 nd x hz.2 h1.1 h1.2
      · cases h
    | [x, y], h =>
      simp only at h
      split at h
      · rename_i h1
        injection h with h
        rw [← h]
        exact node2 nd x y hz.2 h1.1 h1.2.1 h1.2.2.1 h1.2.2.2
      · cases h
    | [], h => cases h
    | _ :: _ :: _ :: _, h => cases h
  · cases h
end Go.Proofs.YtgbhegmhbeekpaaGreat
