/-
  What goes number by number: nodes.
-/
import Derived.Test.YtgbhegmhbeekpaaGreatZ18
namespace Go.Proofs.YtgbhegmhbeekpaaGreat
open Go
set_option maxRecDepth 100000

def rowP (op : Int) (x y : List Int) (i : Nat) : List Int := (List.zipWith (opV op) x y).take i ++ x.drop i
theorem rowP_zero (op : Int) (x y : List Int) : rowP op x y 0 = x := by simp [rowP]
theorem rowP_end (op : Int) {x y : List Int} {n : Nat} (hx : x.length = n) (hy : y.length = n) : rowP op x y n = List.zipWith (opV op) x y := by
  unfold rowP
  rw [List.take_of_length_le (by simp; omega), List.drop_eq_nil_of_le (by omega), List.append_nil]
theorem rowP_set (op : Int) {x y : List Int} {n i : Nat} (hx : x.length = n) (hy : y.length = n) (hi : i < n) : ((rowP op x y i).map (Value.int .i64)).set i (.int .i64 (opV op (x.getD i 0) (y.getD i 0))) = (rowP op x y (i + 1)).map (.int .i64) := by
  unfold rowP
  rw [← List.map_set]
  congr 1
  rw [List.take_succ_eq_append_getElem (by simp; omega), List.drop_eq_getElem_cons (show i < x.length by omega)]
  rw [List.set_append_right _ _ (by simp; omega)]
  have : i - ((List.zipWith (opV op) x y).take i).length = 0 := by simp; omega
  rw [this, List.set_cons_zero, List.append_assoc]
  simp [List.getD_eq_getElem?_getD, List.getElem?_eq_getElem (show i < x.length by omega), List.getElem?_eq_getElem (show i < y.length by omega)]
theorem tnOk_len {t : Tn} (h : tnOk t = true) : t.sh.length ≤ 4 ∧ (t.da.length : Int) = szOf t.sh ∧ t.da.length ≤ 4096 ∧ shOk t.sh = true := by
  unfold tnOk at h
  simp only [Bool.and_eq_true, decide_eq_true_eq] at h
  have h1 := (shOk_iff t.sh).1 h.1
  have h2 := szOf_bounds t.sh
  exact ⟨h1.1, h.2, by omega, h.1⟩

theorem c_each (op : Int) (x y : Tn) (hop : 4 ≤ op ∧ op ≤ 11) (hx : tnOk x = true) (hy : tnOk y = true) (hs : x.sh = y.sh) (a b a' b' : Option Addr) (n c m d n' c' m' d' : Nat) : Con Tryz.prog 155 #[.int .i64 op, .agg #[.slice a n c, .slice b m d], .agg #[.slice a' n' c', .slice b' m' d']] [] [aSl I x.sh a n c, aSl I x.da b m d, aSl I y.sh a' n' c', aSl I y.da b' m' d']
    (fun _ : (Option Addr × Nat × Nat) × Option Addr × Nat × Nat => True) (fun z => .tuple #[.agg #[.slice z.1.1 z.1.2.1 z.1.2.2, .slice z.2.1 z.2.2.1 z.2.2.2], .int .i64 0]) (fun _ => [])
    (fun z => [aSl I (ptw op x y).sh z.1.1 z.1.2.1 z.1.2.2, aSl I (ptw op x y).da z.2.1 z.2.2.1 z.2.2.2]) := by
  refine con_of (n := 41) Tryz.func155 rfl rfl rfl (by simp) ?_
  intro C hC
  have lx := tnOk_len hx
  have ly := tnOk_len hy
  refine T_pure (φ := n = x.sh.length ∧ m = x.da.length ∧ m' = y.da.length) (fun w h => ⟨(sl_len h (xs := x.sh) (a := a) (n := n) (c := c) (by repeat (first | with_reducible exact In.head | apply In.tail))).1, (sl_len h (xs := x.da) (a := b) (n := m) (c := d) (by repeat (first | with_reducible exact In.head | apply In.tail))).1, (sl_len h (xs := y.da) (a := b') (n := m') (c := d') (by repeat (first | with_reducible exact In.head | apply In.tail))).1⟩) (fun hl => ?_)
  obtain ⟨hn, hm, hm'⟩ := hl
  have hmm : m' = m := by
    have h1 := lx.2.1
    have h2 := ly.2.1
    rw [hs] at h1; omega
  subst hmm
  refine T_seq (T_reg rfl ?_)
  refine V_l (l_boxA rfl rfl) rfl rfl ?_; rintro g4 -
  refine V_l (l_boxA rfl rfl) rfl rfl ?_; rintro g5 -
  refine V_l (l_alloc (cs := [.slice none 0 0, .slice none 0 0]) rfl tz28 rfl) rfl rfl ?_; rintro g6 -
  refine V_q (q_asg rfl rfl) rfl rfl ?_
  refine V_next (fun _ => rfl) ?_
  refine T_seq ?_
  refine T_seq (T_reg rfl ?_)
  refine V_q (q_ldA rfl ty28 rfl (by repeat (first | with_reducible exact Sel.head | apply Sel.tail)) (by repeat (first | exact SubL.z | apply SubL.s | apply SubL.t))) rfl rfl ?_
  refine V_q (q_ldA rfl ty28 rfl (by repeat (first | with_reducible exact Sel.head | apply Sel.tail)) (by repeat (first | exact SubL.z | apply SubL.s | apply SubL.t))) rfl rfl ?_
  refine V_l (l_bs [.slice none 0 0, .slice none 0 0, .slice none 0 0, .slice none 0 0] rfl Tryz.underlying77 ty28 tz28 (by decide) rfl rfl rfl (by repeat (first | exact FillL.nil | apply FillL.cons rfl rfl (by repeat (first | exact PutL.z | apply PutL.s | apply PutL.t))))) rfl rfl ?_; rintro g13 -
  refine V_ghost (fun w h => h.know (aEv rTn [x, y] [.slice a n c, .slice b m' d, .slice a' n' c', .slice b' m' d']) (show EvP rTn _ _ ([x] ++ [y]) ([.slice a n c, .slice b m' d] ++ [.slice a' n' c', .slice b' m' d']) from
    EvP.snoc (R := rTn) (EvP.one (R := rTn) (x := x) ⟨a, n, c, b, m', d, rfl, h.atom (A := aSl I x.sh a n c) (by repeat (first | with_reducible exact In.head | apply In.tail)), h.atom (A := aSl I x.da b m' d) (by repeat (first | with_reducible exact In.head | apply In.tail))⟩) ⟨a', n', c', b', m', d', rfl, h.atom (A := aSl I y.sh a' n' c') (by repeat (first | with_reducible exact In.head | apply In.tail)), h.atom (A := aSl I y.da b' m' d') (by repeat (first | with_reducible exact In.head | apply In.tail))⟩)) ?_
  refine V_ghost (fun w h => h.sealBE rTn (xs := [x, y]) (g := g13) (n := 2) (k := 2) (cs := [.slice a n c, .slice b m' d, .slice a' n' c', .slice b' m' d']) rfl (by repeat (first | with_reducible exact Sel.head | apply Sel.tail)) (by decide) rfl (by decide) (by repeat (first | with_reducible exact In.head | apply In.tail))) ?_
  have cf := c_fit [x, y] x (some ⟨g13, 0, none⟩) 2 2 rfl (by
    intro z hz
    rcases List.mem_cons.1 hz with rfl | hz
    · exact ⟨hx, rfl⟩
    · rw [List.mem_singleton.1 hz]; exact ⟨hy, hs.symm⟩)
  refine V_l (l_call rfl ent156 rfl (cf) (by repeat (first | with_reducible exact Pick.nil | apply Pick.cons (by repeat (first | with_reducible exact Sel.head | apply Sel.tail)))) (by repeat (first | with_reducible exact Ins.nil | refine Ins.cons (by repeat (first | with_reducible exact In.head | apply In.tail)) ?_)) (fun _ => (by repeat (first | with_reducible exact App.nil | apply App.cons))) (fun _ => (by repeat (first | with_reducible exact App.nil | apply App.cons)))) rfl rfl ?_; rintro g14 -
  refine V_q (q_not rfl rfl) rfl rfl ?_
  refine V_next (fun _ => rfl) ?_
  refine T_cond rfl (fun hb => ?_) (fun hb => ?_)
  · cases hb
  refine T_skip_next (fun _ => rfl) ?_
  refine T_seq (T_reg rfl ?_)
  refine V_q (q_ldA rfl ty28 rfl (by repeat (first | with_reducible exact Sel.head | apply Sel.tail)) (by repeat (first | exact SubL.z | apply SubL.s | apply SubL.t))) rfl rfl ?_
  refine V_l (l_call rfl ent61 rfl (c_CopyO x a b n c m' d (by omega) (by omega)) (by repeat (first | with_reducible exact Pick.nil | apply Pick.cons (by repeat (first | with_reducible exact Sel.head | apply Sel.tail)))) (by repeat (first | with_reducible exact Ins.nil | refine Ins.cons (by repeat (first | with_reducible exact In.head | apply In.tail)) ?_)) (fun _ => (by repeat (first | with_reducible exact App.nil | apply App.cons))) (fun _ => (by repeat (first | with_reducible exact App.nil | apply App.cons)))) rfl rfl ?_; rintro ⟨⟨oa, oc⟩, da, dc⟩ -
  refine V_l (l_alloc (cs := [.slice none 0 0, .slice none 0 0]) rfl tz28 rfl) rfl rfl ?_; rintro g8 -
  refine V_n (l_st rfl ty28 rfl rfl rfl rfl rfl (by repeat (first | with_reducible exact Put.head | apply Put.tail)) (by repeat (first | exact PutL.z | apply PutL.s | apply PutL.t))) rfl rfl ?_; rintro ⟨⟩ -
  refine V_next (fun _ => rfl) ?_
  refine T_seq ?_
  refine T_seq (T_reg rfl ?_)
  refine V_q (q_fa rfl fd28_1 rfl) rfl rfl ?_
  refine V_q (q_ld rfl ty26 rfl (by repeat (first | with_reducible exact Sel.head | apply Sel.tail)) rfl) rfl rfl ?_
  refine V_q (q_len rfl Tryz.underlying26 rfl) rfl rfl ?_
  refine V_q (q_mov rfl rfl) rfl rfl ?_
  refine V_next (fun _ => rfl) ?_
  refine T_block ?_
  refine T_loop (fun i : Nat => [(0, .int .i64 op), (4, .pointer (some ⟨g4, 0, none⟩)), (6, .pointer (some ⟨g6, 0, none⟩)), (8, .pointer (some ⟨g8, 0, none⟩)), (20, .slice b' m' d'), (21, .int .i64 m'), (22, .int .i64 i)])
    (fun i => [rOwn 2 1 (.slice da m' dc) m' ((rowP op x.da y.da i).map (.int .i64)), rBlk g8 28 [.slice oa n oc, .slice da m' dc], rBlk g6 28 [.slice none 0 0, .slice none 0 0], rBlk g4 28 [.slice a n c, .slice b m' d]])
    (fun _ => [aSl I x.sh oa n oc, aSl I x.da b m' d, aSl I y.da b' m' d']) (fun i => i ≤ m') (fun i => m' - i) 0 (Nat.zero_le _) ⟨rfl, rfl, rfl, rfl, rfl, rfl, rfl, trivial⟩ (fun w h => ?_) ?_
  · show St C [rOwn 2 1 (.slice da m' dc) m' ((rowP op x.da y.da 0).map (.int .i64)), _, _, _] _ w
    rw [rowP_zero]
    exact h.pick (by repeat (first | with_reducible exact Pick.nil | apply Pick.cons (by repeat (first | with_reducible exact Sel.head | apply Sel.tail)))) (by simp)
  intro i hi
  refine T_seq (T_reg rfl ?_)
  refine V_q (q_lt rfl rfl rfl) rfl rfl ?_
  refine V_next (fun _ => rfl) ?_
  refine T_seq ?_
  refine T_cond rfl (fun hb => ?_) (fun hb => ?_)
  rotate_left
  · have hie : i = m' := by
      have : ¬ (i : Int) < m' := by simpa using hb
      omega
    refine T_exit_next (fun _ => rfl) ?_
    rw [hie]
    have hrow : rowP op x.da y.da m' = (ptw op x y).da := rowP_end op hm.symm hm'.symm
    rw [hrow]
    refine T_ghost (fun w h => h.know (aEv I (ptw op x y).da ((ptw op x y).da.map (.int .i64))) (EvP.ints _ _ _ _)) ?_
    refine T_seal I (e := 2) (k := 1) rfl (by decide) (xs := (ptw op x y).da) (v := .slice da m' dc) (n := m') (cs := (ptw op x y).da.map (.int .i64)) (by repeat (first | with_reducible exact Sel.head | apply Sel.tail)) In.head fun a1 c1 hv => ?_
    injection hv with e1 e2 e3
    subst e1; subst e3
    refine T_seq (T_reg rfl ?_)
    refine V_q (q_ldA rfl ty28 rfl (by repeat (first | with_reducible exact Sel.head | apply Sel.tail)) (by repeat (first | exact SubL.z | apply SubL.s | apply SubL.t))) rfl rfl ?_
    refine V_n (l_st rfl ty28 rfl rfl rfl rfl rfl (by repeat (first | with_reducible exact Put.head | apply Put.tail)) (by repeat (first | exact PutL.z | apply PutL.s | apply PutL.t))) rfl rfl ?_; rintro ⟨⟩ -
    refine V_q (q_asg rfl rfl) rfl rfl ?_
    refine V_next (fun _ => rfl) ?_
    exact T_ret fun w h => ⟨_, res_ct rfl ty28 rfl (h.res (by repeat (first | with_reducible exact Sel.head | apply Sel.tail))) rfl, ((oa, n, oc), da, m', dc), trivial, rfl, h.pick (by repeat (first | with_reducible exact Pick.nil | apply Pick.cons (by repeat (first | with_reducible exact Sel.head | apply Sel.tail)))) (by simp [ptw])⟩
  have hin : i < m' := by
    have : (i : Int) < m' := by simpa using hb
    omega
  clear hb
  refine T_skip_next (fun _ => rfl) ?_
  refine T_seq ?_
  refine T_block ?_
  refine T_seq (T_reg rfl ?_)
  refine V_q (q_mov rfl rfl) rfl rfl ?_
  refine V_q (q_iaN rfl Tryz.underlying26 ty2 rfl rfl (by omega) (by repeat (first | with_reducible exact In.head | apply In.tail))) rfl rfl ?_
  refine V_q (q_ldN rfl ty2 rfl (by repeat (first | with_reducible exact In.head | apply In.tail)) (by omega)) rfl rfl ?_
  refine V_q (q_asg rfl rfl) rfl rfl ?_
  refine V_q (q_asg rfl rfl) rfl rfl ?_
  refine V_next (fun _ => rfl) ?_
  refine T_own (e := 2) (k := 1) (v := .slice da m' dc) (n := m') (cs := (rowP op x.da y.da i).map (.int .i64)) (by repeat (first | with_reducible exact Sel.head | apply Sel.tail)) (by omega) fun gd cd hv => ?_
  injection hv with e1 e2 e3
  subst e1; subst e3
  refine T_drawn hmix (.pure 0 <| .quiet 1 <| .pure 2 <| .pure 3 <| .pure 4 <| .quiet 5 <| .pure 6 <| .quiet 7 <| .quiet 8 <| .pure 9 <| .loud 10 <| .pure 11 <| .bar 12 <| .fin) (by decide +kernel) ?_
  refine W_p rfl (q_fa rfl fd28_1 rfl) rfl rfl ?_
  refine W_ld rfl rfl ty26 rfl (by repeat (first | with_reducible exact Sel.head | apply Sel.tail)) rfl rfl rfl ?_
  refine W_p rfl (q_mov rfl rfl) rfl rfl ?_
  refine W_p rfl (q_mov rfl rfl) rfl rfl ?_
  refine W_p rfl (q_fa rfl fd28_1 rfl) rfl rfl ?_
  refine W_ld rfl rfl ty26 rfl (by repeat (first | with_reducible exact Sel.head | apply Sel.tail)) rfl rfl rfl ?_
  refine W_p rfl (q_mov rfl rfl) rfl rfl ?_
  refine W_a rfl (q_iaN rfl Tryz.underlying26 ty2 rfl rfl (by omega) (by repeat (first | with_reducible exact In.head | apply In.tail))) rfl rfl ?_
  refine W_a rfl (q_ldN rfl ty2 rfl (by repeat (first | with_reducible exact In.head | apply In.tail)) (by omega)) rfl rfl ?_
  refine W_p rfl (q_mov rfl rfl) rfl rfl ?_
  refine W_l rfl (l_call rfl ent205 rfl (c_ptStep op (x.da.getD i 0) (y.da.getD i 0) hop) (by repeat (first | with_reducible exact Pick.nil | apply Pick.cons (by repeat (first | with_reducible exact Sel.head | apply Sel.tail)))) (by repeat (first | with_reducible exact Ins.nil | refine Ins.cons (by repeat (first | with_reducible exact In.head | apply In.tail)) ?_)) (fun _ => (by repeat (first | with_reducible exact App.nil | apply App.cons))) (fun _ => (by repeat (first | with_reducible exact App.nil | apply App.cons)))) (fun _ _ h => by repeat (first | exact trivial | refine ⟨?_, h.weak (by repeat (first | exact List.Sublist.refl _ | exact List.nil_sublist _ | with_reducible apply List.Sublist.cons_cons | apply List.Sublist.cons)) (by simp +contextual)⟩)) rfl rfl ?_; rintro g37 -
  refine W_p rfl (q_ia1 rfl Tryz.underlying26 ty2 rfl rfl hin) rfl rfl ?_
  refine W_bn rfl (l_setO i rfl ty2 rfl rfl rfl rfl rfl hin (by repeat (first | with_reducible exact Put.head | apply Put.tail))) rfl rfl ?_; rintro ⟨⟩ -
  refine W_next (fun _ => rfl) ?_
  refine T_reg rfl ?_
  refine V_q (q_addI rfl rfl rfl (by omega)) rfl rfl ?_
  refine V_q (q_mov rfl rfl) rfl rfl ?_
  refine V_nil ?_
  intro w h
  rw [rowP_set op hm.symm hm'.symm hin] at h
  exact ⟨i + 1, ⟨by omega, by omega⟩, ⟨rfl, rfl, rfl, rfl, rfl, rfl, rfl, trivial⟩, h.pick (by repeat (first | with_reducible exact Pick.nil | apply Pick.cons (by repeat (first | with_reducible exact Sel.head | apply Sel.tail)))) (by simp)⟩

theorem c_One (op : Int) (x : Tn) (hop : op = 4 ∨ op = 5) (hx : tnOk x = true) (a b : Option Addr) (n c m d : Nat) : Con Tryz.prog 122 #[.int .i64 op, .agg #[.slice a n c, .slice b m d]] [] [aSl I x.sh a n c, aSl I x.da b m d]
    (fun _ : (Option Addr × Nat × Nat) × Option Addr × Nat × Nat => True) (fun z => .tuple #[.agg #[.slice z.1.1 z.1.2.1 z.1.2.2, .slice z.2.1 z.2.2.1 z.2.2.2], .int .i64 0]) (fun _ => [])
    (fun z => [aSl I (ptw op x x).sh z.1.1 z.1.2.1 z.1.2.2, aSl I (ptw op x x).da z.2.1 z.2.2.1 z.2.2.2]) := by
  refine con_of (n := 19) Tryz.func122 rfl rfl rfl (by simp) ?_
  intro C hC
  refine T_seq (T_reg rfl ?_)
  refine V_l (l_boxA rfl rfl) rfl rfl ?_; rintro g3 -
  refine V_l (l_alloc (cs := [.slice none 0 0, .slice none 0 0]) rfl tz28 rfl) rfl rfl ?_; rintro g4 -
  refine V_q (q_asg rfl rfl) rfl rfl ?_
  refine V_next (fun _ => rfl) ?_
  refine T_seq ?_
  by_cases h4 : op = 4
  · refine T_seq (T_reg rfl ?_)
    refine V_q (q_mov rfl rfl) rfl rfl ?_
    refine V_q (q_ne rfl rfl rfl) rfl rfl ?_
    rw [decide_eq_false (show ¬ op ≠ 4 by omega)]
    refine V_q (q_mov rfl rfl) rfl rfl ?_
    refine V_skip rfl rfl ?_
    refine V_skip rfl rfl ?_
    refine V_q (q_pick rfl rfl rfl rfl) rfl rfl ?_
    refine V_next (fun _ => rfl) ?_
    refine T_cond rfl (fun hb => ?_) (fun hb => ?_)
    · cases hb
    refine T_skip_next (fun _ => rfl) ?_
    refine T_seq (T_reg rfl ?_)
    refine V_q (q_mov rfl rfl) rfl rfl ?_
    refine V_q (q_ldA rfl ty28 rfl (by repeat (first | with_reducible exact Sel.head | apply Sel.tail)) (by repeat (first | exact SubL.z | apply SubL.s | apply SubL.t))) rfl rfl ?_
    refine V_q (q_ldA rfl ty28 rfl (by repeat (first | with_reducible exact Sel.head | apply Sel.tail)) (by repeat (first | exact SubL.z | apply SubL.s | apply SubL.t))) rfl rfl ?_
    refine V_l (l_call rfl ent155 rfl (c_each op x x (by omega) hx hx rfl a b a b n c m d n c m d) (by repeat (first | with_reducible exact Pick.nil | apply Pick.cons (by repeat (first | with_reducible exact Sel.head | apply Sel.tail)))) (by repeat (first | with_reducible exact Ins.nil | refine Ins.cons (by repeat (first | with_reducible exact In.head | apply In.tail)) ?_)) (fun _ => (by repeat (first | with_reducible exact App.nil | apply App.cons))) (fun _ => (by repeat (first | with_reducible exact App.nil | apply App.cons)))) rfl rfl ?_; rintro ⟨⟨ra, rn, rc⟩, sa', sn, sc⟩ -
    refine V_q (q_ext rfl rfl rfl) rfl rfl ?_
    refine V_q (q_ext rfl rfl rfl) rfl rfl ?_
    refine V_n (l_st rfl ty28 rfl rfl rfl rfl rfl (by repeat (first | with_reducible exact Put.head | apply Put.tail)) (by repeat (first | exact PutL.z | apply PutL.s | apply PutL.t))) rfl rfl ?_; rintro ⟨⟩ -
    refine V_q (q_asg rfl rfl) rfl rfl ?_
    refine V_next (fun _ => rfl) ?_
    exact T_ret fun w h => ⟨_, res_ct rfl ty28 rfl (h.res (by repeat (first | with_reducible exact Sel.head | apply Sel.tail))) rfl, ((ra, rn, rc), sa', sn, sc), trivial, rfl, h.weak (List.nil_sublist _) (by simp)⟩
  · refine T_seq (T_reg rfl ?_)
    refine V_q (q_mov rfl rfl) rfl rfl ?_
    refine V_q (q_ne rfl rfl rfl) rfl rfl ?_
    rw [decide_eq_true (show op ≠ 4 from h4)]
    refine V_q (q_mov rfl rfl) rfl rfl ?_
    refine V_want (q_mov rfl rfl) rfl rfl ?_
    refine V_want (q_ne rfl rfl rfl) rfl rfl ?_
    refine V_q (q_pick rfl rfl rfl rfl) rfl rfl ?_
    refine V_next (fun _ => rfl) ?_
    rw [decide_eq_false (show ¬ op ≠ 5 by omega)]
    refine T_cond rfl (fun hb => ?_) (fun hb => ?_)
    · cases hb
    refine T_skip_next (fun _ => rfl) ?_
    refine T_seq (T_reg rfl ?_)
    refine V_q (q_mov rfl rfl) rfl rfl ?_
    refine V_q (q_ldA rfl ty28 rfl (by repeat (first | with_reducible exact Sel.head | apply Sel.tail)) (by repeat (first | exact SubL.z | apply SubL.s | apply SubL.t))) rfl rfl ?_
    refine V_q (q_ldA rfl ty28 rfl (by repeat (first | with_reducible exact Sel.head | apply Sel.tail)) (by repeat (first | exact SubL.z | apply SubL.s | apply SubL.t))) rfl rfl ?_
    refine V_l (l_call rfl ent155 rfl (c_each op x x (by omega) hx hx rfl a b a b n c m d n c m d) (by repeat (first | with_reducible exact Pick.nil | apply Pick.cons (by repeat (first | with_reducible exact Sel.head | apply Sel.tail)))) (by repeat (first | with_reducible exact Ins.nil | refine Ins.cons (by repeat (first | with_reducible exact In.head | apply In.tail)) ?_)) (fun _ => (by repeat (first | with_reducible exact App.nil | apply App.cons))) (fun _ => (by repeat (first | with_reducible exact App.nil | apply App.cons)))) rfl rfl ?_; rintro ⟨⟨ra, rn, rc⟩, sa', sn, sc⟩ -
    refine V_q (q_ext rfl rfl rfl) rfl rfl ?_
    refine V_q (q_ext rfl rfl rfl) rfl rfl ?_
    refine V_n (l_st rfl ty28 rfl rfl rfl rfl rfl (by repeat (first | with_reducible exact Put.head | apply Put.tail)) (by repeat (first | exact PutL.z | apply PutL.s | apply PutL.t))) rfl rfl ?_; rintro ⟨⟩ -
    refine V_q (q_asg rfl rfl) rfl rfl ?_
    refine V_next (fun _ => rfl) ?_
    exact T_ret fun w h => ⟨_, res_ct rfl ty28 rfl (h.res (by repeat (first | with_reducible exact Sel.head | apply Sel.tail))) rfl, ((ra, rn, rc), sa', sn, sc), trivial, rfl, h.weak (List.nil_sublist _) (by simp)⟩

theorem c_Two (op : Int) (x y : Tn) (hop : 6 ≤ op ∧ op ≤ 11) (hx : tnOk x = true) (hy : tnOk y = true) (hs : x.sh = y.sh) (a b a' b' : Option Addr) (n c m d n' c' m' d' : Nat) : Con Tryz.prog 124 #[.int .i64 op, .agg #[.slice a n c, .slice b m d], .agg #[.slice a' n' c', .slice b' m' d']] [] [aSl I x.sh a n c, aSl I x.da b m d, aSl I y.sh a' n' c', aSl I y.da b' m' d']
    (fun _ : (Option Addr × Nat × Nat) × Option Addr × Nat × Nat => True) (fun z => .tuple #[.agg #[.slice z.1.1 z.1.2.1 z.1.2.2, .slice z.2.1 z.2.2.1 z.2.2.2], .int .i64 0]) (fun _ => [])
    (fun z => [aSl I (ptw op x y).sh z.1.1 z.1.2.1 z.1.2.2, aSl I (ptw op x y).da z.2.1 z.2.2.1 z.2.2.2]) := by
  refine con_of (n := 21) Tryz.func124 rfl rfl rfl (by simp) ?_
  intro C hC
  refine T_seq (T_reg rfl ?_)
  refine V_l (l_boxA rfl rfl) rfl rfl ?_; rintro g4 -
  refine V_l (l_boxA rfl rfl) rfl rfl ?_; rintro g5 -
  refine V_l (l_alloc (cs := [.slice none 0 0, .slice none 0 0]) rfl tz28 rfl) rfl rfl ?_; rintro g6 -
  refine V_q (q_asg rfl rfl) rfl rfl ?_
  refine V_next (fun _ => rfl) ?_
  refine T_seq ?_
  refine T_seq (T_reg rfl ?_)
  refine V_q (q_mov rfl rfl) rfl rfl ?_
  refine V_q (q_lt rfl rfl rfl) rfl rfl ?_
  rw [decide_eq_false (show ¬ op < 6 by omega)]
  refine V_q (q_mov rfl rfl) rfl rfl ?_
  refine V_want (q_mov rfl rfl) rfl rfl ?_
  refine V_want (q_gt rfl rfl rfl) rfl rfl ?_
  refine V_q (q_pick rfl rfl rfl rfl) rfl rfl ?_
  refine V_next (fun _ => rfl) ?_
  rw [decide_eq_false (show ¬ 11 < op by omega)]
  refine T_cond rfl (fun hb => ?_) (fun hb => ?_)
  · cases hb
  refine T_skip_next (fun _ => rfl) ?_
  refine T_seq (T_reg rfl ?_)
  refine V_q (q_mov rfl rfl) rfl rfl ?_
  refine V_q (q_ldA rfl ty28 rfl (by repeat (first | with_reducible exact Sel.head | apply Sel.tail)) (by repeat (first | exact SubL.z | apply SubL.s | apply SubL.t))) rfl rfl ?_
  refine V_q (q_ldA rfl ty28 rfl (by repeat (first | with_reducible exact Sel.head | apply Sel.tail)) (by repeat (first | exact SubL.z | apply SubL.s | apply SubL.t))) rfl rfl ?_
  refine V_l (l_call rfl ent155 rfl (c_each op x y (by omega) hx hy hs a b a' b' n c m d n' c' m' d') (by repeat (first | with_reducible exact Pick.nil | apply Pick.cons (by repeat (first | with_reducible exact Sel.head | apply Sel.tail)))) (by repeat (first | with_reducible exact Ins.nil | refine Ins.cons (by repeat (first | with_reducible exact In.head | apply In.tail)) ?_)) (fun _ => (by repeat (first | with_reducible exact App.nil | apply App.cons))) (fun _ => (by repeat (first | with_reducible exact App.nil | apply App.cons)))) rfl rfl ?_; rintro ⟨⟨ra, rn, rc⟩, sa', sn, sc⟩ -
  refine V_q (q_ext rfl rfl rfl) rfl rfl ?_
  refine V_q (q_ext rfl rfl rfl) rfl rfl ?_
  refine V_n (l_st rfl ty28 rfl rfl rfl rfl rfl (by repeat (first | with_reducible exact Put.head | apply Put.tail)) (by repeat (first | exact PutL.z | apply PutL.s | apply PutL.t))) rfl rfl ?_; rintro ⟨⟩ -
  refine V_q (q_asg rfl rfl) rfl rfl ?_
  refine V_next (fun _ => rfl) ?_
  exact T_ret fun w h => ⟨_, res_ct rfl ty28 rfl (h.res (by repeat (first | with_reducible exact Sel.head | apply Sel.tail))) rfl, ((ra, rn, rc), sa', sn, sc), trivial, rfl, h.weak (List.nil_sublist _) (by simp)⟩
end Go.Proofs.YtgbhegmhbeekpaaGreat
