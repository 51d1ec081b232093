/-
  Whether one of many is so; the shapes of nodes that go number by number.
-/
import Derived.Test.YtgbhegmhbeekpaaGreatZ15
namespace Go.Proofs.YtgbhegmhbeekpaaGreat
open Go
set_option maxRecDepth 100000


theorem c_IndexS (f : FuncId) (cap : List Value) (rs : List Res) (pre : List Atom) (xs : List (List Int)) (a : Option Addr) (m c : Nat) (he : Enters Tryz.prog f)
    (hf : ∀ x v, x ∈ xs → Con Tryz.prog f ([v] ++ cap).toArray rs (aEl (rSl I) x [v] :: pre) (fun _ : Unit => True) (fun _ => .bool false) (fun _ => rs) (fun _ => [])) :
    Con Tryz.prog 193 #[.slice a m c, .func (.func f) #[] cap.toArray] rs (aSl (rSl I) xs a m c :: pre)
    (fun _ : Unit => True) (fun _ => .int .i64 (-1)) (fun _ => rs) (fun _ => []) := by
  refine con_of (n := 19) Tryz.func193 rfl rfl rfl (by simp) ?_
  intro C hC
  refine T_pure (φ := m ≤ maxLen) (fun w h => Nat.le_trans (sl_len h (xs := xs) (a := a) (n := m) (c := c) (by repeat (first | with_reducible exact In.head | apply In.tail))).2.1 (sl_len h (xs := xs) (a := a) (n := m) (c := c) (by repeat (first | with_reducible exact In.head | apply In.tail))).2.2) (fun hmax => ?_)
  unfold maxLen at hmax
  refine T_seq (T_reg rfl ?_)
  refine V_q (q_asg rfl rfl) rfl rfl ?_
  refine V_next (fun _ => rfl) ?_
  refine T_seq ?_
  refine T_seq (T_reg rfl ?_)
  refine V_q (q_mov rfl rfl) rfl rfl ?_
  refine V_q (q_len rfl Tryz.underlying86 rfl) rfl rfl ?_
  refine V_q (q_mov rfl rfl) rfl rfl ?_
  refine V_next (fun _ => rfl) ?_
  refine T_block ?_
  refine T_loop (fun k : Nat => [(0, .slice a m c), (1, .func (.func f) #[] cap.toArray), (7, .int .i64 m), (8, .int .i64 k)]) (fun _ => rs) (fun _ => aSl (rSl I) xs a m c :: pre) (fun k => k ≤ m) (fun k => m - k) 0 (Nat.zero_le _) ⟨rfl, rfl, rfl, rfl, trivial⟩ (fun w h => h) ?_
  intro k hk
  refine T_seq (T_reg rfl ?_)
  refine V_q (q_lt rfl rfl rfl) rfl rfl ?_
  refine V_next (fun _ => rfl) ?_
  refine T_seq ?_
  refine T_cond rfl (fun hb => ?_) (fun hb => ?_)
  rotate_left
  · refine T_exit_next (fun _ => rfl) ?_
    refine T_seq (T_reg rfl ?_)
    refine V_q (q_asg rfl rfl) rfl rfl ?_
    refine V_next (fun _ => rfl) ?_
    exact T_ret fun w h => ⟨_, res_1 rfl, (), trivial, rfl, h.weak (List.Sublist.refl _) (by simp)⟩
  have hin : k < m := by
    have : (k : Int) < m := by simpa using hb
    omega
  clear hb
  refine T_el1 k rfl (xs := xs) (a := a) (n := m) (c := c) (by repeat (first | with_reducible exact In.head | apply In.tail)) hin fun x ad v hx had => ?_
  refine T_skip_next (fun _ => rfl) ?_
  refine T_seq ?_
  refine T_block ?_
  refine T_seq (T_reg rfl ?_)
  refine V_q (q_mov rfl rfl) rfl rfl ?_
  refine V_q (q_asg rfl rfl) rfl rfl ?_
  refine V_next (fun _ => rfl) ?_
  refine T_seq (T_reg rfl ?_)
  refine V_q (q_mov rfl rfl) rfl rfl ?_
  refine V_q (q_mov rfl rfl) rfl rfl ?_
  refine V_q (q_mov rfl rfl) rfl rfl ?_
  refine V_q (q_iaE rfl Tryz.underlying86 ty22 rfl rfl hin had) rfl rfl ?_
  refine V_q (q_ldR0 rfl ty22 rfl (by repeat (first | with_reducible exact In.head | apply In.tail))) rfl rfl ?_
  refine V_l (l_callF (cap := cap) rfl rfl he rfl (hf x v (List.mem_of_getElem? hx)) (Pick.all rs) (Ins.of (by simp +contextual)) (fun _ => App.all rs) (fun _ => App.nil)) rfl rfl ?_; rintro g16 -
  refine V_next (fun _ => rfl) ?_
  refine T_cond rfl (fun hb => ?_) (fun hb => ?_)
  · cases hb
  refine T_skip_next (fun _ => rfl) ?_
  refine T_reg rfl ?_
  refine V_q (q_addI rfl rfl rfl (by omega)) rfl rfl ?_
  refine V_q (q_mov rfl rfl) rfl rfl ?_
  refine V_nil ?_
  exact fun w h => ⟨k + 1, ⟨by omega, by omega⟩, ⟨rfl, rfl, rfl, rfl, trivial⟩, h.weak (List.Sublist.refl _) (by simp +contextual)⟩

theorem c_ContS (f : FuncId) (cap : List Value) (rs : List Res) (pre : List Atom) (xs : List (List Int)) (a : Option Addr) (m c : Nat) (he : Enters Tryz.prog f)
    (hf : ∀ x v, x ∈ xs → Con Tryz.prog f ([v] ++ cap).toArray rs (aEl (rSl I) x [v] :: pre) (fun _ : Unit => True) (fun _ => .bool false) (fun _ => rs) (fun _ => [])) :
    Con Tryz.prog 146 #[.slice a m c, .func (.func f) #[] cap.toArray] rs (aSl (rSl I) xs a m c :: pre)
    (fun _ : Unit => True) (fun _ => .bool false) (fun _ => rs) (fun _ => []) := by
  refine con_of (n := 9) Tryz.func146 rfl rfl rfl (by simp) ?_
  intro C hC
  refine T_seq (T_reg rfl ?_)
  refine V_q (q_asg rfl rfl) rfl rfl ?_
  refine V_next (fun _ => rfl) ?_
  refine T_seq (T_reg rfl ?_)
  refine V_q (q_mov rfl rfl) rfl rfl ?_
  refine V_q (q_mov rfl rfl) rfl rfl ?_
  refine V_l (l_call rfl ent193 rfl (c_IndexS f cap rs pre xs a m c he hf) (Pick.all rs) (Ins.of (by simp)) (fun _ => App.all rs) (fun _ => App.nil)) rfl rfl ?_; rintro g7 -
  refine V_q (q_ge rfl rfl rfl) rfl rfl ?_
  refine V_q (q_asg rfl rfl) rfl rfl ?_
  refine V_next (fun _ => rfl) ?_
  exact T_ret fun w h => ⟨_, res_1 rfl, (), trivial, rfl, h.weak (List.Sublist.refl _) (by simp)⟩

theorem c_IndexT (f : FuncId) (cap : List Value) (rs : List Res) (pre : List Atom) (xs : List Tn) (a : Option Addr) (m c : Nat) (he : Enters Tryz.prog f)
    (hf : ∀ x pa pn pc qa qn qc, x ∈ xs → Con Tryz.prog f ([Value.agg #[.slice pa pn pc, .slice qa qn qc]] ++ cap).toArray rs (aSl I x.sh pa pn pc :: aSl I x.da qa qn qc :: pre) (fun _ : Unit => True) (fun _ => .bool false) (fun _ => rs) (fun _ => [])) :
    Con Tryz.prog 265 #[.slice a m c, .func (.func f) #[] cap.toArray] rs (aSl rTn xs a m c :: pre)
    (fun _ : Unit => True) (fun _ => .int .i64 (-1)) (fun _ => rs) (fun _ => []) := by
  refine con_of (n := 19) Tryz.func265 rfl rfl rfl (by simp) ?_
  intro C hC
  refine T_pure (φ := m ≤ maxLen) (fun w h => Nat.le_trans (sl_len h (xs := xs) (a := a) (n := m) (c := c) (by repeat (first | with_reducible exact In.head | apply In.tail))).2.1 (sl_len h (xs := xs) (a := a) (n := m) (c := c) (by repeat (first | with_reducible exact In.head | apply In.tail))).2.2) (fun hmax => ?_)
  unfold maxLen at hmax
  refine T_seq (T_reg rfl ?_)
  refine V_q (q_asg rfl rfl) rfl rfl ?_
  refine V_next (fun _ => rfl) ?_
  refine T_seq ?_
  refine T_seq (T_reg rfl ?_)
  refine V_q (q_mov rfl rfl) rfl rfl ?_
  refine V_q (q_len rfl Tryz.underlying77 rfl) rfl rfl ?_
  refine V_q (q_mov rfl rfl) rfl rfl ?_
  refine V_next (fun _ => rfl) ?_
  refine T_block ?_
  refine T_loop (fun k : Nat => [(0, .slice a m c), (1, .func (.func f) #[] cap.toArray), (7, .int .i64 m), (8, .int .i64 k)]) (fun _ => rs) (fun _ => aSl rTn xs a m c :: pre) (fun k => k ≤ m) (fun k => m - k) 0 (Nat.zero_le _) ⟨rfl, rfl, rfl, rfl, trivial⟩ (fun w h => h) ?_
  intro k hk
  refine T_seq (T_reg rfl ?_)
  refine V_q (q_lt rfl rfl rfl) rfl rfl ?_
  refine V_next (fun _ => rfl) ?_
  refine T_seq ?_
  refine T_cond rfl (fun hb => ?_) (fun hb => ?_)
  rotate_left
  · refine T_exit_next (fun _ => rfl) ?_
    refine T_seq (T_reg rfl ?_)
    refine V_q (q_asg rfl rfl) rfl rfl ?_
    refine V_next (fun _ => rfl) ?_
    exact T_ret fun w h => ⟨_, res_1 rfl, (), trivial, rfl, h.weak (List.Sublist.refl _) (by simp)⟩
  have hin : k < m := by
    have : (k : Int) < m := by simpa using hb
    omega
  clear hb
  refine T_tn k (xs := xs) (a := a) (n := m) (c := c) (by repeat (first | with_reducible exact In.head | apply In.tail)) hin fun x ad pa pn pc qa qn qc hx had => ?_
  refine T_skip_next (fun _ => rfl) ?_
  refine T_seq ?_
  refine T_block ?_
  refine T_seq (T_reg rfl ?_)
  refine V_q (q_mov rfl rfl) rfl rfl ?_
  refine V_q (q_asg rfl rfl) rfl rfl ?_
  refine V_next (fun _ => rfl) ?_
  refine T_seq (T_reg rfl ?_)
  refine V_q (q_mov rfl rfl) rfl rfl ?_
  refine V_q (q_mov rfl rfl) rfl rfl ?_
  refine V_q (q_mov rfl rfl) rfl rfl ?_
  refine V_q (q_iaE rfl Tryz.underlying77 ty28 rfl rfl hin had) rfl rfl ?_
  refine V_q (q_ldRA rfl ty28 rfl rfl (by repeat (first | with_reducible exact In.head | apply In.tail))) rfl rfl ?_
  refine V_l (l_callF (cap := cap) rfl rfl he rfl (hf x pa pn pc qa qn qc (List.mem_of_getElem? hx)) (Pick.all rs) (Ins.of (by simp +contextual)) (fun _ => App.all rs) (fun _ => App.nil)) rfl rfl ?_; rintro g16 -
  refine V_next (fun _ => rfl) ?_
  refine T_cond rfl (fun hb => ?_) (fun hb => ?_)
  · cases hb
  refine T_skip_next (fun _ => rfl) ?_
  refine T_reg rfl ?_
  refine V_q (q_addI rfl rfl rfl (by omega)) rfl rfl ?_
  refine V_q (q_mov rfl rfl) rfl rfl ?_
  refine V_nil ?_
  exact fun w h => ⟨k + 1, ⟨by omega, by omega⟩, ⟨rfl, rfl, rfl, rfl, trivial⟩, h.weak (List.Sublist.refl _) (by simp +contextual)⟩

theorem c_ContT (f : FuncId) (cap : List Value) (rs : List Res) (pre : List Atom) (xs : List Tn) (a : Option Addr) (m c : Nat) (he : Enters Tryz.prog f)
    (hf : ∀ x pa pn pc qa qn qc, x ∈ xs → Con Tryz.prog f ([Value.agg #[.slice pa pn pc, .slice qa qn qc]] ++ cap).toArray rs (aSl I x.sh pa pn pc :: aSl I x.da qa qn qc :: pre) (fun _ : Unit => True) (fun _ => .bool false) (fun _ => rs) (fun _ => [])) :
    Con Tryz.prog 206 #[.slice a m c, .func (.func f) #[] cap.toArray] rs (aSl rTn xs a m c :: pre)
    (fun _ : Unit => True) (fun _ => .bool false) (fun _ => rs) (fun _ => []) := by
  refine con_of (n := 9) Tryz.func206 rfl rfl rfl (by simp) ?_
  intro C hC
  refine T_seq (T_reg rfl ?_)
  refine V_q (q_asg rfl rfl) rfl rfl ?_
  refine V_next (fun _ => rfl) ?_
  refine T_seq (T_reg rfl ?_)
  refine V_q (q_mov rfl rfl) rfl rfl ?_
  refine V_q (q_mov rfl rfl) rfl rfl ?_
  refine V_l (l_call rfl ent265 rfl (c_IndexT f cap rs pre xs a m c he hf) (Pick.all rs) (Ins.of (by simp)) (fun _ => App.all rs) (fun _ => App.nil)) rfl rfl ?_; rintro g7 -
  refine V_q (q_ge rfl rfl rfl) rfl rfl ?_
  refine V_q (q_asg rfl rfl) rfl rfl ?_
  refine V_next (fun _ => rfl) ?_
  exact T_ret fun w h => ⟨_, res_1 rfl, (), trivial, rfl, h.weak (List.Sublist.refl _) (by simp)⟩

theorem c_shSame (xs : List Int) (a b : Option Addr) (n c m d : Nat) : Con Tryz.prog 190 #[.slice a n c, .slice b m d] [] [aSl I xs a n c, aSl I xs b m d]
    (fun _ : Unit => True) (fun _ => .bool true) (fun _ => []) (fun _ => []) := by
  refine con_of (n := 8) Tryz.func190 rfl rfl rfl (by simp) ?_
  intro C hC
  refine T_seq (T_reg rfl ?_)
  refine V_q (q_asg rfl rfl) rfl rfl ?_
  refine V_next (fun _ => rfl) ?_
  refine T_seq (T_reg rfl ?_)
  refine V_q (q_mov rfl rfl) rfl rfl ?_
  refine V_q (q_mov rfl rfl) rfl rfl ?_
  refine V_l (l_call rfl ent260 rfl (c_EqI xs a b n c m d) (by repeat (first | with_reducible exact Pick.nil | apply Pick.cons (by repeat (first | with_reducible exact Sel.head | apply Sel.tail)))) (by repeat (first | with_reducible exact Ins.nil | refine Ins.cons (by repeat (first | with_reducible exact In.head | apply In.tail)) ?_)) (fun _ => (by repeat (first | with_reducible exact App.nil | apply App.cons))) (fun _ => (by repeat (first | with_reducible exact App.nil | apply App.cons)))) rfl rfl ?_; rintro g7 -
  refine V_q (q_asg rfl rfl) rfl rfl ?_
  refine V_next (fun _ => rfl) ?_
  exact T_ret fun w h => ⟨_, res_1 rfl, (), trivial, rfl, h.weak (List.nil_sublist _) (by simp)⟩

theorem c_gShape1 (x : List Int) (v : Value) (hx : shOk x = true) : Con Tryz.prog 147 #[v] [] [aEl (rSl I) x [v]]
    (fun _ : Unit => True) (fun _ => .bool false) (fun _ => []) (fun _ => []) := by
  refine con_of (n := 6) Tryz.func147 rfl rfl rfl (by simp) ?_
  intro C hC
  refine T_elSl (by repeat (first | with_reducible exact In.head | apply In.tail)) fun a n c hv => ?_
  subst hv
  have cs := c_shapeRight x a n c
  rw [hx] at cs
  refine T_seq (T_reg rfl ?_)
  refine V_q (q_asg rfl rfl) rfl rfl ?_
  refine V_next (fun _ => rfl) ?_
  refine T_seq (T_reg rfl ?_)
  refine V_q (q_mov rfl rfl) rfl rfl ?_
  refine V_l (l_call rfl ent88 rfl (cs) (by repeat (first | with_reducible exact Pick.nil | apply Pick.cons (by repeat (first | with_reducible exact Sel.head | apply Sel.tail)))) (by repeat (first | with_reducible exact Ins.nil | refine Ins.cons (by repeat (first | with_reducible exact In.head | apply In.tail)) ?_)) (fun _ => (by repeat (first | with_reducible exact App.nil | apply App.cons))) (fun _ => (by repeat (first | with_reducible exact App.nil | apply App.cons)))) rfl rfl ?_; rintro g4 -
  refine V_q (q_not rfl rfl) rfl rfl ?_
  refine V_q (q_asg rfl rfl) rfl rfl ?_
  refine V_next (fun _ => rfl) ?_
  exact T_ret fun w h => ⟨_, res_1 rfl, (), trivial, rfl, h.weak (List.nil_sublist _) (by simp)⟩

theorem c_alike1 (g : Nat) (xs : List (List Int)) (s : List Int) (v : Value) (a : Option Addr) (n c : Nat) (h0 : xs[0]? = some s) : Con Tryz.prog 263 #[v, .pointer (some ⟨g, 0, none⟩)] [rBlk g 86 [.slice a n c]] [aEl (rSl I) s [v], aSl (rSl I) xs a n c]
    (fun _ : Unit => True) (fun _ => .bool false) (fun _ => [rBlk g 86 [.slice a n c]]) (fun _ => []) := by
  refine con_of (n := 10) Tryz.func263 rfl rfl rfl (by simp) ?_
  intro C hC
  refine T_pure (φ := 0 < n) (fun w h => by
    have := (sl_len h (xs := xs) (a := a) (n := n) (c := c) (by repeat (first | with_reducible exact In.head | apply In.tail))).1
    have h1 := (List.getElem?_eq_some_iff.1 h0).1
    omega) (fun hn => ?_)
  refine T_elSl (by repeat (first | with_reducible exact In.head | apply In.tail)) fun pa pn pc hv => ?_
  subst hv
  refine T_sl 0 (xs := xs) (a := a) (n := n) (c := c) (by repeat (first | with_reducible exact In.head | apply In.tail)) hn fun x ad b m d hx had hm => ?_
  rw [h0] at hx; injection hx with hx; subst hx
  refine T_seq (T_reg rfl ?_)
  refine V_q (q_asg rfl rfl) rfl rfl ?_
  refine V_next (fun _ => rfl) ?_
  refine T_seq (T_reg rfl ?_)
  refine V_q (q_mov rfl rfl) rfl rfl ?_
  refine V_q (q_ld rfl ty86 rfl (by repeat (first | with_reducible exact Sel.head | apply Sel.tail)) rfl) rfl rfl ?_
  refine V_q (q_iaE rfl Tryz.underlying86 ty22 (i := 0) rfl rfl hn had) rfl rfl ?_
  refine V_q (q_ldR0 rfl ty22 rfl (by repeat (first | with_reducible exact In.head | apply In.tail))) rfl rfl ?_
  refine V_l (l_call rfl ent190 rfl (c_shSame s pa b pn pc m d) (by repeat (first | with_reducible exact Pick.nil | apply Pick.cons (by repeat (first | with_reducible exact Sel.head | apply Sel.tail)))) (by repeat (first | with_reducible exact Ins.nil | refine Ins.cons (by repeat (first | with_reducible exact In.head | apply In.tail)) ?_)) (fun _ => (by repeat (first | with_reducible exact App.nil | apply App.cons))) (fun _ => (by repeat (first | with_reducible exact App.nil | apply App.cons)))) rfl rfl ?_; rintro g8 -
  refine V_q (q_not rfl rfl) rfl rfl ?_
  refine V_q (q_asg rfl rfl) rfl rfl ?_
  refine V_next (fun _ => rfl) ?_
  exact T_ret fun w h => ⟨_, res_1 rfl, (), trivial, rfl, h.weak (List.Sublist.refl _) (by simp)⟩

theorem c_alike (xs : List (List Int)) (s : List Int) (a : Option Addr) (n c : Nat) (h0 : xs[0]? = some s) (hs : ∀ x ∈ xs, x = s) : Con Tryz.prog 202 #[.slice a n c] [] [aSl (rSl I) xs a n c]
    (fun _ : Option Addr × Nat × Nat => True) (fun y => .tuple #[.slice y.1 y.2.1 y.2.2, .int .i64 0]) (fun _ => []) (fun y => [aSl I s y.1 y.2.1 y.2.2]) := by
  refine con_of (n := 10) Tryz.func202 rfl rfl rfl (by simp) ?_
  intro C hC
  refine T_pure (φ := 0 < n) (fun w h => by
    have := (sl_len h (xs := xs) (a := a) (n := n) (c := c) (by repeat (first | with_reducible exact In.head | apply In.tail))).1
    have h1 := (List.getElem?_eq_some_iff.1 h0).1
    omega) (fun hn => ?_)
  refine T_sl 0 (xs := xs) (a := a) (n := n) (c := c) (by repeat (first | with_reducible exact In.head | apply In.tail)) hn fun x ad b m d hx had hm => ?_
  rw [h0] at hx; injection hx with hx; subst hx
  refine T_seq (T_reg rfl ?_)
  refine V_l (l_box1 rfl rfl rfl) rfl rfl ?_; rintro g1 -
  refine V_q (q_asg rfl rfl) rfl rfl ?_
  refine V_q (q_asg rfl rfl) rfl rfl ?_
  refine V_next (fun _ => rfl) ?_
  refine T_seq ?_
  refine T_seq (T_reg rfl ?_)
  refine V_q (q_ld rfl ty86 rfl (by repeat (first | with_reducible exact Sel.head | apply Sel.tail)) rfl) rfl rfl ?_
  refine V_q (q_mkf rfl rfl rfl) rfl rfl ?_
  refine V_l (l_call rfl ent146 rfl (c_ContS 263 [.pointer (some ⟨g1, 0, none⟩)] [rBlk g1 86 [.slice a n c]] [aSl (rSl I) xs a n c] xs a n c ent263 (fun x v hx => by rw [hs x hx]; exact c_alike1 g1 xs s v a n c h0)) (by repeat (first | with_reducible exact Pick.nil | apply Pick.cons (by repeat (first | with_reducible exact Sel.head | apply Sel.tail)))) (by repeat (first | with_reducible exact Ins.nil | refine Ins.cons (by repeat (first | with_reducible exact In.head | apply In.tail)) ?_)) (fun _ => (by repeat (first | with_reducible exact App.nil | apply App.cons))) (fun _ => (by repeat (first | with_reducible exact App.nil | apply App.cons)))) rfl rfl ?_; rintro g6 -
  refine V_next (fun _ => rfl) ?_
  refine T_cond rfl (fun hb => ?_) (fun hb => ?_)
  · cases hb
  refine T_skip_next (fun _ => rfl) ?_
  refine T_seq (T_reg rfl ?_)
  refine V_q (q_ld rfl ty86 rfl (by repeat (first | with_reducible exact Sel.head | apply Sel.tail)) rfl) rfl rfl ?_
  refine V_q (q_iaE rfl Tryz.underlying86 ty22 (i := 0) rfl rfl hn had) rfl rfl ?_
  refine V_q (q_ldR0 rfl ty22 rfl (by repeat (first | with_reducible exact In.head | apply In.tail))) rfl rfl ?_
  refine V_q (q_asg rfl rfl) rfl rfl ?_
  refine V_q (q_asg rfl rfl) rfl rfl ?_
  refine V_next (fun _ => rfl) ?_
  exact T_ret fun w h => ⟨_, res_2 rfl rfl, (b, m, d), trivial, rfl, h.weak (List.nil_sublist _) (by simp)⟩
end Go.Proofs.YtgbhegmhbeekpaaGreat
