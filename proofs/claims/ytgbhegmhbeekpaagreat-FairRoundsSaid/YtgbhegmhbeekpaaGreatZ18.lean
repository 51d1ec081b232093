/-
  What goes number by number.
-/
import Derived.Test.YtgbhegmhbeekpaaGreatZ17
namespace Go.Proofs.YtgbhegmhbeekpaaGreat
open Go
set_option maxRecDepth 100000

theorem c_bit (b : Bool) : Con Tryz.prog 264 #[.bool b] [] [] (fun _ : Unit => True) (fun _ => .int .i64 (if b = true then 1 else 0)) (fun _ => []) (fun _ => []) := by
  refine con_of (n := 4) Tryz.func264 rfl rfl rfl (by simp) ?_
  intro C hC
  refine T_seq (T_reg rfl ?_)
  refine V_q (q_asg rfl rfl) rfl rfl ?_
  refine V_next (fun _ => rfl) ?_
  refine T_seq ?_
  refine T_seq (T_reg rfl ?_)
  refine V_q (q_mov rfl rfl) rfl rfl ?_
  refine V_next (fun _ => rfl) ?_
  refine T_cond rfl (fun hb => ?_) (fun hb => ?_)
  · subst hb
    refine T_seq (T_reg rfl ?_)
    refine V_q (q_asg rfl rfl) rfl rfl ?_
    refine V_next (fun _ => rfl) ?_
    exact T_ret fun w h => ⟨_, res_1 rfl, (), trivial, rfl, h⟩
  · subst hb
    refine T_skip_next (fun _ => rfl) ?_
    refine T_seq (T_reg rfl ?_)
    refine V_q (q_asg rfl rfl) rfl rfl ?_
    refine V_next (fun _ => rfl) ?_
    exact T_ret fun w h => ⟨_, res_1 rfl, (), trivial, rfl, h⟩

theorem c_ptStep (op a b : Int) (h : 4 ≤ op ∧ op ≤ 11) : Con Tryz.prog 205 #[.int .i64 op, .int .i64 a, .int .i64 b] [] [] (fun _ : Unit => True) (fun _ => .int .i64 (opV op a b)) (fun _ => []) (fun _ => []) := by
  refine con_of (n := 48) Tryz.func205 rfl rfl rfl (by simp) ?_
  intro C hC
  refine T_seq (T_reg rfl ?_)
  refine V_q (q_asg rfl rfl) rfl rfl ?_
  refine V_next (fun _ => rfl) ?_
  refine T_seq ?_
  refine T_seq (T_reg rfl ?_)
  refine V_q (q_mov rfl rfl) rfl rfl ?_
  refine V_next (fun _ => rfl) ?_
  refine T_block ?_
  refine T_seq (T_reg rfl ?_)
  refine V_q (q_eq rfl rfl rfl) rfl rfl ?_
  refine V_q (q_asg rfl rfl) rfl rfl ?_
  refine V_next (fun _ => rfl) ?_
  refine T_cond rfl (fun hb => ?_) (fun hb => ?_)
  · have e : op = 4 := by simpa using hb
    subst e
    refine T_seq (T_reg rfl ?_)
    refine V_q (q_mov rfl rfl) rfl rfl ?_
    refine V_q (q_neg rfl rfl) rfl rfl ?_
    refine V_q (q_asg rfl rfl) rfl rfl ?_
    refine V_next (fun _ => rfl) ?_
    exact T_ret fun w h => ⟨_, res_1 rfl, (), trivial, rfl, h⟩
  have h4 : ¬ op = 4 := by simpa using hb
  refine T_seq (T_reg rfl ?_)
  refine V_q (q_eq rfl rfl rfl) rfl rfl ?_
  refine V_q (q_asg rfl rfl) rfl rfl ?_
  refine V_next (fun _ => rfl) ?_
  refine T_cond rfl (fun hb => ?_) (fun hb => ?_)
  · have e : op = 5 := by simpa using hb
    subst e
    refine T_seq (T_reg rfl ?_)
    refine V_q (q_mov rfl rfl) rfl rfl ?_
    refine V_q (q_eq rfl rfl rfl) rfl rfl ?_
    refine V_l (l_call rfl ent264 rfl (c_bit (decide (a = 0))) (by repeat (first | with_reducible exact Pick.nil | apply Pick.cons (by repeat (first | with_reducible exact Sel.head | apply Sel.tail)))) (by repeat (first | with_reducible exact Ins.nil | refine Ins.cons (by repeat (first | with_reducible exact In.head | apply In.tail)) ?_)) (fun _ => (by repeat (first | with_reducible exact App.nil | apply App.cons))) (fun _ => (by repeat (first | with_reducible exact App.nil | apply App.cons)))) rfl rfl ?_; rintro g16 -
    refine V_q (q_asg rfl rfl) rfl rfl ?_
    refine V_next (fun _ => rfl) ?_
    exact T_ret fun w h => ⟨_, res_1 rfl, (), trivial, by simp [opV], h⟩
  have h5 : ¬ op = 5 := by simpa using hb
  refine T_seq (T_reg rfl ?_)
  refine V_q (q_eq rfl rfl rfl) rfl rfl ?_
  refine V_q (q_asg rfl rfl) rfl rfl ?_
  refine V_next (fun _ => rfl) ?_
  refine T_cond rfl (fun hb => ?_) (fun hb => ?_)
  · have e : op = 6 := by simpa using hb
    subst e
    refine T_seq (T_reg rfl ?_)
    refine V_q (q_mov rfl rfl) rfl rfl ?_
    refine V_q (q_mov rfl rfl) rfl rfl ?_
    refine V_q (q_add rfl rfl rfl) rfl rfl ?_
    refine V_q (q_asg rfl rfl) rfl rfl ?_
    refine V_next (fun _ => rfl) ?_
    exact T_ret fun w h => ⟨_, res_1 rfl, (), trivial, rfl, h⟩
  have h6 : ¬ op = 6 := by simpa using hb
  refine T_seq (T_reg rfl ?_)
  refine V_q (q_eq rfl rfl rfl) rfl rfl ?_
  refine V_q (q_asg rfl rfl) rfl rfl ?_
  refine V_next (fun _ => rfl) ?_
  refine T_cond rfl (fun hb => ?_) (fun hb => ?_)
  · have e : op = 7 := by simpa using hb
    subst e
    refine T_seq (T_reg rfl ?_)
    refine V_q (q_mov rfl rfl) rfl rfl ?_
    refine V_q (q_mov rfl rfl) rfl rfl ?_
    refine V_q (q_sub rfl rfl rfl) rfl rfl ?_
    refine V_q (q_asg rfl rfl) rfl rfl ?_
    refine V_next (fun _ => rfl) ?_
    exact T_ret fun w h => ⟨_, res_1 rfl, (), trivial, rfl, h⟩
  have h7 : ¬ op = 7 := by simpa using hb
  refine T_seq (T_reg rfl ?_)
  refine V_q (q_eq rfl rfl rfl) rfl rfl ?_
  refine V_q (q_asg rfl rfl) rfl rfl ?_
  refine V_next (fun _ => rfl) ?_
  refine T_cond rfl (fun hb => ?_) (fun hb => ?_)
  · have e : op = 8 := by simpa using hb
    subst e
    refine T_seq (T_reg rfl ?_)
    refine V_q (q_mov rfl rfl) rfl rfl ?_
    refine V_q (q_mov rfl rfl) rfl rfl ?_
    refine V_q (q_mul rfl rfl rfl) rfl rfl ?_
    refine V_q (q_asg rfl rfl) rfl rfl ?_
    refine V_next (fun _ => rfl) ?_
    exact T_ret fun w h => ⟨_, res_1 rfl, (), trivial, rfl, h⟩
  have h8 : ¬ op = 8 := by simpa using hb
  refine T_seq (T_reg rfl ?_)
  refine V_q (q_eq rfl rfl rfl) rfl rfl ?_
  refine V_q (q_asg rfl rfl) rfl rfl ?_
  refine V_next (fun _ => rfl) ?_
  refine T_cond rfl (fun hb => ?_) (fun hb => ?_)
  · have e : op = 9 := by simpa using hb
    subst e
    refine T_seq (T_reg rfl ?_)
    refine V_q (q_mov rfl rfl) rfl rfl ?_
    refine V_q (q_mov rfl rfl) rfl rfl ?_
    refine V_q (q_min rfl rfl rfl) rfl rfl ?_
    refine V_q (q_asg rfl rfl) rfl rfl ?_
    refine V_next (fun _ => rfl) ?_
    exact T_ret fun w h => ⟨_, res_1 rfl, (), trivial, by simp [opV]; omega, h⟩
  have h9 : ¬ op = 9 := by simpa using hb
  refine T_seq (T_reg rfl ?_)
  refine V_q (q_eq rfl rfl rfl) rfl rfl ?_
  refine V_q (q_asg rfl rfl) rfl rfl ?_
  refine V_next (fun _ => rfl) ?_
  refine T_cond rfl (fun hb => ?_) (fun hb => ?_)
  · have e : op = 10 := by simpa using hb
    subst e
    refine T_seq (T_reg rfl ?_)
    refine V_q (q_mov rfl rfl) rfl rfl ?_
    refine V_q (q_mov rfl rfl) rfl rfl ?_
    refine V_q (q_max rfl rfl rfl) rfl rfl ?_
    refine V_q (q_asg rfl rfl) rfl rfl ?_
    refine V_next (fun _ => rfl) ?_
    exact T_ret fun w h => ⟨_, res_1 rfl, (), trivial, by simp [opV]; omega, h⟩
  have h10 : ¬ op = 10 := by simpa using hb
  have e : op = 11 := by omega
  subst e
  refine T_seq (T_reg rfl ?_)
  refine V_q (q_eq rfl rfl rfl) rfl rfl ?_
  refine V_q (q_asg rfl rfl) rfl rfl ?_
  refine V_next (fun _ => rfl) ?_
  refine T_condT rfl (decide_eq_true (by omega)) ?_
  refine T_seq (T_reg rfl ?_)
  refine V_q (q_mov rfl rfl) rfl rfl ?_
  refine V_q (q_mov rfl rfl) rfl rfl ?_
  refine V_q (q_lt rfl rfl rfl) rfl rfl ?_
  refine V_l (l_call rfl ent264 rfl (c_bit (decide (a < b))) (by repeat (first | with_reducible exact Pick.nil | apply Pick.cons (by repeat (first | with_reducible exact Sel.head | apply Sel.tail)))) (by repeat (first | with_reducible exact Ins.nil | refine Ins.cons (by repeat (first | with_reducible exact In.head | apply In.tail)) ?_)) (fun _ => (by repeat (first | with_reducible exact App.nil | apply App.cons))) (fun _ => (by repeat (first | with_reducible exact App.nil | apply App.cons)))) rfl rfl ?_; rintro g47 -
  refine V_q (q_asg rfl rfl) rfl rfl ?_
  refine V_next (fun _ => rfl) ?_
  exact T_ret fun w h => ⟨_, res_1 rfl, (), trivial, by simp [opV], h⟩

theorem ev_ints {k : IntKind} {M : List Nat} {w : World} {xs : List Int} {cs : List Value} (h : EvP (rInt k) M w xs cs) : cs = xs.map (.int k) := by
  obtain ⟨h1, h2⟩ := h
  have hl : cs.length = xs.length := by simpa [rInt] using h1
  apply List.ext_getElem
  · simpa using hl
  · intro i h3 h4
    have h5 := h2 i (by omega)
    have h6 : (cs.drop (i * 1)).take 1 = [.int k xs[i]] := h5
    have h7 := congrArg (fun l => l[0]?) h6
    simp only [List.getElem?_take, Nat.mul_one, List.getElem?_drop] at h7
    simp [List.getElem?_eq_getElem h3] at h7
    rw [h7]; simp

theorem c_CloneLO (xs : List Int) (a : Option Addr) (n c : Nat) (hb : n * 8 ≤ 140737488355328) : Con Tryz.prog 91 #[.slice a n c] [] [aSl (rInt .i64) xs a n c]
    (fun _ : Option Addr × Nat => True) (fun y => .slice y.1 n y.2) (fun y => [rOwn 2 1 (.slice y.1 n y.2) n (xs.map (.int .i64))]) (fun _ => []) := by
  refine con_of (n := 8) Tryz.func91 rfl rfl rfl (by simp) ?_
  intro C hC
  refine T_seq (T_reg rfl ?_)
  refine V_q (q_asg rfl rfl) rfl rfl ?_
  refine V_next (fun _ => rfl) ?_
  refine T_seq ?_
  refine T_seq (T_reg rfl ?_)
  refine V_q (q_mov rfl rfl) rfl rfl ?_
  refine V_q (q_eqlnil rfl Tryz.underlying26 rfl rfl) rfl rfl ?_
  refine V_next (fun _ => rfl) ?_
  refine T_cond rfl (fun hb => ?_) (fun hb => ?_)
  · have ha : a = none := by simpa using hb
    subst ha
    refine T_pure (φ := n = 0 ∧ c = 0 ∧ xs = []) (fun w h => ?_) (fun h0 => ?_)
    · have h1 : SlP _ _ _ _ _ _ _ := h.atom (A := aSl (rInt .i64) xs none n c) (by repeat (first | with_reducible exact In.head | apply In.tail))
      have e1 := h1.2.2.2.1 rfl
      have e2 := h1.2.1
      exact ⟨by omega, e1, List.eq_nil_of_length_eq_zero (by have := h1.1; omega)⟩
    obtain ⟨rfl, rfl, rfl⟩ := h0
    refine T_seq (T_reg rfl ?_)
    refine V_q (q_asg rfl rfl) rfl rfl ?_
    refine V_next (fun _ => rfl) ?_
    refine T_ghost (fun w h => h.rowNil 2 1) ?_
    exact T_ret fun w h => ⟨_, res_1 rfl, (none, 0), trivial, rfl, h.weak (List.Sublist.refl _) (by simp)⟩
  refine T_skip_next (fun _ => rfl) ?_
  refine T_seq (T_reg rfl ?_)
  refine V_l (l_bs [] rfl Tryz.underlying26 ty2 tz2 (by decide) rfl rfl rfl (by repeat (first | exact FillL.nil | apply FillL.cons rfl rfl (by repeat (first | exact PutL.z | apply PutL.s | apply PutL.t))))) rfl rfl ?_; rintro g5 -
  refine V_q (q_mov rfl rfl) rfl rfl ?_
  refine V_ghost (fun w h => h.row (g := g5) (n := 0) (k := 1) Put.head rfl (by simp [maxLen])) ?_
  refine V_l (l_appSs (rInt .i64) rfl Tryz.underlying26 ty2 tz2 tb2 rfl rfl (by decide) rfl rfl (by repeat (first | with_reducible exact In.head | apply In.tail)) (fun _ _ => (by repeat (first | with_reducible exact Put.head | apply Put.tail))) (by simp [maxLen]; omega) (by simp; omega)) rfl rfl ?_; rintro ⟨news, ra, rc⟩ -
  refine V_q (q_asg rfl rfl) rfl rfl ?_
  refine V_next (fun _ => rfl) ?_
  refine T_pure (φ := news = xs.map (.int .i64)) (fun w h => ev_ints (show EvP _ _ _ xs news from h.atom (by repeat (first | with_reducible exact In.head | apply In.tail)))) (fun hnews => ?_)
  refine T_ret fun w h => ⟨_, res_1 rfl, (ra, rc), trivial, ?_, ?_⟩
  · simp
  · have e : ([] : List Value) ++ news = xs.map (.int .i64) := by rw [hnews]; rfl
    have h' : St C [rOwn 2 1 (.slice ra (0 + n) rc) (0 + n) ([] ++ news)] _ w := h
    rw [Nat.zero_add, e] at h'
    exact h'.weak (List.Sublist.refl _) (by simp)

theorem c_CopyO (x : Tn) (a b : Option Addr) (n c m d : Nat) (h1 : n * 8 ≤ 140737488355328) (h2 : m * 8 ≤ 140737488355328) : Con Tryz.prog 61 #[.agg #[.slice a n c, .slice b m d]] [] [aSl I x.sh a n c, aSl I x.da b m d]
    (fun _ : (Option Addr × Nat) × (Option Addr × Nat) => True) (fun y => .agg #[.slice y.1.1 n y.1.2, .slice y.2.1 m y.2.2]) (fun y => [rOwn 2 1 (.slice y.2.1 m y.2.2) m (x.da.map (.int .i64))]) (fun y => [aSl I x.sh y.1.1 n y.1.2]) := by
  refine con_of (n := 10) Tryz.func61 rfl rfl rfl (by simp) ?_
  intro C hC
  refine T_seq (T_reg rfl ?_)
  refine V_l (l_boxA rfl rfl) rfl rfl ?_; rintro g1 -
  refine V_l (l_alloc (cs := [.slice none 0 0, .slice none 0 0]) rfl tz28 rfl) rfl rfl ?_; rintro g2 -
  refine V_next (fun _ => rfl) ?_
  refine T_seq (T_drawn hmix (.pure 0 <| .quiet 1 <| .pure 3 <| .quiet 4 <| .loud 2 <| .loud 5 <| .pure 6 <| .bar 7 <| .fin) (by decide +kernel) ?_)
  refine W_p rfl (q_fa rfl fd28_0 rfl) rfl rfl ?_
  refine W_ld rfl rfl ty22 rfl (by repeat (first | with_reducible exact Sel.head | apply Sel.tail)) rfl rfl rfl ?_
  refine W_p rfl (q_fa rfl fd28_1 rfl) rfl rfl ?_
  refine W_ld rfl rfl ty26 rfl (by repeat (first | with_reducible exact Sel.head | apply Sel.tail)) rfl rfl rfl ?_
  refine W_l rfl (l_call rfl ent90 rfl (c_CloneI x.sh a n c h1) (by repeat (first | with_reducible exact Pick.nil | apply Pick.cons (by repeat (first | with_reducible exact Sel.head | apply Sel.tail)))) (by repeat (first | with_reducible exact Ins.nil | refine Ins.cons (by repeat (first | with_reducible exact In.head | apply In.tail)) ?_)) (fun _ => (by repeat (first | with_reducible exact App.nil | apply App.cons))) (fun _ => (by repeat (first | with_reducible exact App.nil | apply App.cons)))) (fun _ _ h => by repeat (first | exact trivial | refine ⟨?_, h.weak (by repeat (first | exact List.Sublist.refl _ | exact List.nil_sublist _ | with_reducible apply List.Sublist.cons_cons | apply List.Sublist.cons)) (by simp +contextual)⟩)) rfl rfl ?_; rintro ⟨a', c'⟩ -
  refine W_l rfl (l_call rfl ent91 rfl (c_CloneLO x.da b m d h2) (by repeat (first | with_reducible exact Pick.nil | apply Pick.cons (by repeat (first | with_reducible exact Sel.head | apply Sel.tail)))) (by repeat (first | with_reducible exact Ins.nil | refine Ins.cons (by repeat (first | with_reducible exact In.head | apply In.tail)) ?_)) (fun _ => (by repeat (first | with_reducible exact App.nil | apply App.cons))) (fun _ => (by repeat (first | with_reducible exact App.nil | apply App.cons)))) (fun _ _ h => by repeat (first | exact trivial | refine ⟨?_, h.weak (by repeat (first | exact List.Sublist.refl _ | exact List.nil_sublist _ | with_reducible apply List.Sublist.cons_cons | apply List.Sublist.cons)) (by simp +contextual)⟩)) rfl rfl ?_; rintro ⟨b', d'⟩ -
  refine W_p rfl (q_buildS rfl pl28 tz28 rfl rfl (by repeat (first | exact FillL.nil | apply FillL.cons rfl rfl (by repeat (first | exact PutL.z | apply PutL.s | apply PutL.t))))) rfl rfl ?_
  refine W_bn rfl (l_st rfl ty28 rfl rfl rfl rfl rfl (by repeat (first | with_reducible exact Put.head | apply Put.tail)) (by repeat (first | exact PutL.z | apply PutL.s | apply PutL.t))) rfl rfl ?_; rintro ⟨⟩ -
  refine W_next (fun _ => rfl) ?_
  exact T_ret fun w h => ⟨_, res_c rfl ty28 rfl (h.res (by repeat (first | with_reducible exact Sel.head | apply Sel.tail))), ((a', c'), (b', d')), trivial, rfl, h.pick (by repeat (first | with_reducible exact Pick.nil | apply Pick.cons (by repeat (first | with_reducible exact Sel.head | apply Sel.tail)))) (by simp)⟩

theorem c_fit1 (g : Nat) (xs : List Tn) (s x : Tn) (pa : Option Addr) (pn pc : Nat) (qa : Option Addr) (qn qc : Nat) (a : Option Addr) (n c : Nat) (h0 : xs[0]? = some s) (hx : tnOk x = true) (hs : x.sh = s.sh) : Con Tryz.prog 207 #[.agg #[.slice pa pn pc, .slice qa qn qc], .pointer (some ⟨g, 0, none⟩)] [rBlk g 77 [.slice a n c]] [aSl I x.sh pa pn pc, aSl I x.da qa qn qc, aSl rTn xs a n c]
    (fun _ : Unit => True) (fun _ => .bool false) (fun _ => [rBlk g 77 [.slice a n c]]) (fun _ => []) := by
  refine con_of (n := 17) Tryz.func207 rfl rfl rfl (by simp) ?_
  intro C hC
  refine T_pure (φ := 0 < n) (fun w h => by
    have := (sl_len h (xs := xs) (a := a) (n := n) (c := c) (by repeat (first | with_reducible exact In.head | apply In.tail))).1
    have h1 := (List.getElem?_eq_some_iff.1 h0).1
    omega) (fun hn => ?_)
  refine T_tn 0 (xs := xs) (a := a) (n := n) (c := c) (by repeat (first | with_reducible exact In.head | apply In.tail)) hn fun z ad ra rn rc sa' sn sc hz had => ?_
  rw [h0] at hz; injection hz with hz; subst hz
  rw [← hs]
  have ct := c_tensorRight x pa qa pn pc qn qc
  rw [hx] at ct
  refine T_seq (T_reg rfl ?_)
  refine V_l (l_boxA rfl rfl) rfl rfl ?_; rintro g2 -
  refine V_q (q_asg rfl rfl) rfl rfl ?_
  refine V_next (fun _ => rfl) ?_
  refine T_seq (T_drawn hmix (.quiet 0 <| .bar 1 <| .pure 2 <| .pure 3 <| .pure 4 <| .quiet 5 <| .quiet 6 <| .pure 7 <| .pure 8 <| .quiet 9 <| .loud 10 <| .pure 11 <| .pure 12 <| .pure 13 <| .fin) (by decide +kernel) ?_)
  refine W_ldA rfl rfl ty28 rfl (by repeat (first | with_reducible exact Sel.head | apply Sel.tail)) (by repeat (first | exact SubL.z | apply SubL.s | apply SubL.t)) rfl rfl ?_
  refine W_b rfl (l_call rfl ent60 rfl (ct) (by repeat (first | with_reducible exact Pick.nil | apply Pick.cons (by repeat (first | with_reducible exact Sel.head | apply Sel.tail)))) (by repeat (first | with_reducible exact Ins.nil | refine Ins.cons (by repeat (first | with_reducible exact In.head | apply In.tail)) ?_)) (fun _ => (by repeat (first | with_reducible exact App.nil | apply App.cons))) (fun _ => (by repeat (first | with_reducible exact App.nil | apply App.cons)))) rfl rfl ?_; rintro g5 -
  refine W_p rfl (q_not rfl rfl) rfl rfl ?_
  refine W_p rfl (q_mov rfl rfl) rfl rfl ?_
  refine W_p rfl (q_fa rfl fd28_0 rfl) rfl rfl ?_
  refine W_ld rfl rfl ty22 rfl (by repeat (first | with_reducible exact Sel.head | apply Sel.tail)) rfl rfl rfl ?_
  refine W_ld rfl rfl ty77 rfl (by repeat (first | with_reducible exact Sel.head | apply Sel.tail)) rfl rfl rfl ?_
  refine W_p rfl (q_iaE rfl Tryz.underlying77 ty28 (i := 0) rfl rfl hn had) rfl rfl ?_
  refine W_p rfl (q_faR rfl fd28_0 rfl) rfl rfl ?_
  refine W_a rfl (q_ldR rfl ty22 rfl (by repeat (first | with_reducible exact In.head | apply In.tail)) rfl) rfl rfl ?_
  refine W_l rfl (l_call rfl ent190 rfl (c_shSame x.sh pa ra pn pc rn rc) (by repeat (first | with_reducible exact Pick.nil | apply Pick.cons (by repeat (first | with_reducible exact Sel.head | apply Sel.tail)))) (by repeat (first | with_reducible exact Ins.nil | refine Ins.cons (by repeat (first | with_reducible exact In.head | apply In.tail)) ?_)) (fun _ => (by repeat (first | with_reducible exact App.nil | apply App.cons))) (fun _ => (by repeat (first | with_reducible exact App.nil | apply App.cons)))) (fun _ _ h => by repeat (first | exact trivial | refine ⟨?_, h.weak (by repeat (first | exact List.Sublist.refl _ | exact List.nil_sublist _ | with_reducible apply List.Sublist.cons_cons | apply List.Sublist.cons)) (by simp +contextual)⟩)) rfl rfl ?_; rintro g14 -
  refine W_p rfl (q_not rfl rfl) rfl rfl ?_
  refine W_p rfl (q_pick rfl rfl rfl rfl) rfl rfl ?_
  refine W_p rfl (q_asg rfl rfl) rfl rfl ?_
  refine W_next (fun _ => rfl) ?_
  exact T_ret fun w h => ⟨_, res_1 rfl, (), trivial, rfl, h.weak (by repeat (first | exact List.Sublist.refl _ | exact List.nil_sublist _ | with_reducible apply List.Sublist.cons_cons | apply List.Sublist.cons)) (by simp)⟩

theorem c_fit (xs : List Tn) (s : Tn) (a : Option Addr) (n c : Nat) (h0 : xs[0]? = some s) (hx : ∀ x ∈ xs, tnOk x = true ∧ x.sh = s.sh) : Con Tryz.prog 156 #[.slice a n c] [] [aSl rTn xs a n c]
    (fun _ : Unit => True) (fun _ => .bool true) (fun _ => []) (fun _ => []) := by
  refine con_of (n := 7) Tryz.func156 rfl rfl rfl (by simp) ?_
  intro C hC
  refine T_seq (T_reg rfl ?_)
  refine V_l (l_box1 rfl rfl rfl) rfl rfl ?_; rintro g1 -
  refine V_q (q_asg rfl rfl) rfl rfl ?_
  refine V_next (fun _ => rfl) ?_
  refine T_seq (T_reg rfl ?_)
  refine V_q (q_ld rfl ty77 rfl (by repeat (first | with_reducible exact Sel.head | apply Sel.tail)) rfl) rfl rfl ?_
  refine V_q (q_mkf rfl rfl rfl) rfl rfl ?_
  refine V_l (l_call rfl ent206 rfl (c_ContT 207 [.pointer (some ⟨g1, 0, none⟩)] [rBlk g1 77 [.slice a n c]] [aSl rTn xs a n c] xs a n c ent207 (fun x pa pn pc qa qn qc hxm => c_fit1 g1 xs s x pa pn pc qa qn qc a n c h0 (hx x hxm).1 (hx x hxm).2)) (by repeat (first | with_reducible exact Pick.nil | apply Pick.cons (by repeat (first | with_reducible exact Sel.head | apply Sel.tail)))) (by repeat (first | with_reducible exact Ins.nil | refine Ins.cons (by repeat (first | with_reducible exact In.head | apply In.tail)) ?_)) (fun _ => (by repeat (first | with_reducible exact App.nil | apply App.cons))) (fun _ => (by repeat (first | with_reducible exact App.nil | apply App.cons)))) rfl rfl ?_; rintro g5 -
  refine V_q (q_not rfl rfl) rfl rfl ?_
  refine V_q (q_asg rfl rfl) rfl rfl ?_
  refine V_next (fun _ => rfl) ?_
  exact T_ret fun w h => ⟨_, res_1 rfl, (), trivial, rfl, h.weak (List.nil_sublist _) (by simp)⟩
end Go.Proofs.YtgbhegmhbeekpaaGreat
