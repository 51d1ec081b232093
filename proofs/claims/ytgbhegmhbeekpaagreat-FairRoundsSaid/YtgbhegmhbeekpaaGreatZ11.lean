/-
  Programs that may be; instructions and programs by themselves.
-/
import Derived.Test.YtgbhegmhbeekpaaGreatZ10
namespace Go.Proofs.YtgbhegmhbeekpaaGreat
open Go
set_option maxRecDepth 100000

theorem c_program (n : Nat) (p : List Inst) (h : PrOk n p) (a : Option Addr) (m c : Nat) : Con Tryz.prog 86 #[.slice a m c, .int .i64 n] [] [aSl rInst p a m c]
    (fun _ : Unit => True) (fun _ => .int .i64 0) (fun _ => []) (fun _ => []) := by
  refine con_of (n := 31) Tryz.func86 rfl rfl rfl (by simp) ?_
  intro C hC
  refine T_pure (φ := m = p.length ∧ m ≤ maxLen) (fun w h => ⟨(sl_len h (xs := p) (a := a) (n := m) (c := c) (by repeat (first | with_reducible exact In.head | apply In.tail))).1, Nat.le_trans (sl_len h (xs := p) (a := a) (n := m) (c := c) (by repeat (first | with_reducible exact In.head | apply In.tail))).2.1 (sl_len h (xs := p) (a := a) (n := m) (c := c) (by repeat (first | with_reducible exact In.head | apply In.tail))).2.2⟩) (fun hn0 => ?_)
  obtain ⟨hm, hmax⟩ := hn0
  unfold maxLen at hmax
  refine T_seq (T_reg rfl ?_)
  refine V_q (q_asg rfl rfl) rfl rfl ?_
  refine V_next (fun _ => rfl) ?_
  refine T_seq (T_reg rfl ?_)
  refine V_l (l_mkmap kI rfl) rfl rfl ?_; rintro r -
  refine V_q (q_asg rfl rfl) rfl rfl ?_
  refine V_next (fun _ => rfl) ?_
  refine T_seq ?_
  refine T_seq (T_reg rfl ?_)
  refine V_q (q_mov rfl rfl) rfl rfl ?_
  refine V_q (q_len rfl Tryz.underlying63 rfl) rfl rfl ?_
  refine V_q (q_mov rfl rfl) rfl rfl ?_
  refine V_next (fun _ => rfl) ?_
  refine T_block ?_
  refine T_loop (fun k : Nat => [(1, .int .i64 n), (5, .map (some r)), (9, .slice a m c), (10, .int .i64 m), (11, .int .i64 k)]) (fun k => [rMap kI r (wE (p.take k))]) (fun _ => [aSl rInst p a m c]) (fun k => k ≤ m) (fun k => m - k) 0 (Nat.zero_le _) ⟨rfl, rfl, rfl, rfl, rfl, trivial⟩ (fun w h => h) ?_
  intro k hk
  refine T_seq (T_reg rfl ?_)
  refine V_q (q_lt rfl rfl rfl) rfl rfl ?_
  refine V_next (fun _ => rfl) ?_
  refine T_seq ?_
  refine T_cond rfl (fun hb => ?_) (fun hb => ?_)
  rotate_left
  · refine T_exit_next (fun _ => rfl) ?_
    refine T_seq (T_reg rfl ?_)
    refine V_q (q_asg rfl rfl) rfl rfl ?_
    refine V_next (fun _ => rfl) ?_
    exact T_ret fun w h => ⟨_, res_1 rfl, (), trivial, rfl, h.weak (List.nil_sublist _) (by simp)⟩
  have hin : k < m := by
    have : (k : Int) < m := by simpa using hb
    omega
  clear hb
  refine T_inst k (xs := p) (a := a) (by repeat (first | with_reducible exact In.head | apply In.tail)) hin fun i ad a0 n0 c0 a1 n1 c1 a2 n2 c2 a3 n3 c3 hi had => ?_
  obtain ⟨h1, h2⟩ := h k i hi
  refine T_skip_next (fun _ => rfl) ?_
  refine T_seq ?_
  refine T_block ?_
  refine T_seq (T_reg rfl ?_)
  refine V_q (q_iaE rfl Tryz.underlying63 ty112 rfl rfl hin had) rfl rfl ?_
  refine V_q (q_ldRA rfl ty112 rfl rfl (by repeat (first | with_reducible exact In.head | apply In.tail))) rfl rfl ?_
  refine V_l (l_alloc (cs := [.int .i64 0, .int .i64 0, .slice none 0 0, .int .i64 0, .slice none 0 0, .slice none 0 0, .slice none 0 0, .int .i64 0, .int .i64 0, .string ByteArray.empty, .int .i64 0, .int .i64 0, .int .i64 0]) rfl tz112 rfl) rfl rfl ?_; rintro g7 -
  refine V_n (l_st rfl ty112 rfl rfl rfl rfl rfl (by repeat (first | with_reducible exact Put.head | apply Put.tail)) (by repeat (first | exact PutL.z | apply PutL.s | apply PutL.t))) rfl rfl ?_; rintro ⟨⟩ -
  refine V_next (fun _ => rfl) ?_
  refine T_seq ?_
  refine T_seq (T_reg rfl ?_)
  refine V_q (q_ldA rfl ty112 rfl (by repeat (first | with_reducible exact Sel.head | apply Sel.tail)) (by repeat (first | exact SubL.z | apply SubL.s | apply SubL.t))) rfl rfl ?_
  refine V_l (l_call rfl ent116 rfl (c_shaped i h1 a0 a1 a2 a3 n0 c0 n1 c1 n2 c2 n3 c3) (by repeat (first | with_reducible exact Pick.nil | apply Pick.cons (by repeat (first | with_reducible exact Sel.head | apply Sel.tail)))) (by repeat (first | with_reducible exact Ins.nil | refine Ins.cons (by repeat (first | with_reducible exact In.head | apply In.tail)) ?_)) (fun _ => (by repeat (first | with_reducible exact App.nil | apply App.cons))) (fun _ => (by repeat (first | with_reducible exact App.nil | apply App.cons)))) rfl rfl ?_; rintro g16 -
  refine V_q (q_not rfl rfl) rfl rfl ?_
  refine V_next (fun _ => rfl) ?_
  refine T_cond rfl (fun hb => ?_) (fun hb => ?_)
  · cases hb
  refine T_skip_next (fun _ => rfl) ?_
  refine T_seq ?_
  refine T_seq (T_reg rfl ?_)
  refine V_q (q_ldA rfl ty112 rfl (by repeat (first | with_reducible exact Sel.head | apply Sel.tail)) (by repeat (first | exact SubL.z | apply SubL.s | apply SubL.t))) rfl rfl ?_
  refine V_q (q_mov rfl rfl) rfl rfl ?_
  refine V_q (q_mov rfl rfl) rfl rfl ?_
  refine V_l (l_call rfl ent117 rfl (c_placed (p.take k) i n r h2 a0 a1 a2 a3 n0 c0 n1 c1 n2 c2 n3 c3) (by repeat (first | with_reducible exact Pick.nil | apply Pick.cons (by repeat (first | with_reducible exact Sel.head | apply Sel.tail)))) (by repeat (first | with_reducible exact Ins.nil | refine Ins.cons (by repeat (first | with_reducible exact In.head | apply In.tail)) ?_)) (fun _ => (by repeat (first | with_reducible exact App.nil | apply App.cons))) (fun _ => (by repeat (first | with_reducible exact App.nil | apply App.cons)))) rfl rfl ?_; rintro g21 -
  refine V_q (q_not rfl rfl) rfl rfl ?_
  refine V_next (fun _ => rfl) ?_
  refine T_cond rfl (fun hb => ?_) (fun hb => ?_)
  · cases hb
  refine T_skip_next (fun _ => rfl) ?_
  have ht : p.take (k + 1) = p.take k ++ [i] := by rw [List.take_add_one, hi]; rfl
  refine T_seq (T_reg rfl ?_)
  refine V_q (q_fa rfl fd112_0 rfl) rfl rfl ?_
  refine V_q (q_ld rfl ty3 rfl (by repeat (first | with_reducible exact Sel.head | apply Sel.tail)) rfl) rfl rfl ?_
  refine V_q (q_ne rfl rfl rfl) rfl rfl ?_
  refine V_next (fun _ => rfl) ?_
  refine T_cond rfl (fun hb => ?_) (fun hb => ?_)
  · have hk3 : i.kind ≠ 3 := by simpa using hb
    refine T_reg rfl ?_
    refine V_q (q_mov rfl rfl) rfl rfl ?_
    refine V_q (q_fa rfl fd112_1 rfl) rfl rfl ?_
    refine V_q (q_ld rfl ty3 rfl (by repeat (first | with_reducible exact Sel.head | apply Sel.tail)) rfl) rfl rfl ?_
    refine V_q (q_buildS rfl pl169 tz169 rfl rfl (by repeat (first | exact FillL.nil | apply FillL.cons rfl rfl (by repeat (first | exact PutL.z | apply PutL.s | apply PutL.t))))) rfl rfl ?_
    refine V_n (l_mapupd i.out rfl Tryz.underlying167 ktI rfl rfl rfl (by repeat (first | with_reducible exact Put.head | apply Put.tail))) rfl rfl ?_; rintro ⟨⟩ -
    refine V_next (fun _ => rfl) ?_
    refine T_reg rfl ?_
    refine V_q (q_addI rfl rfl rfl (by omega)) rfl rfl ?_
    refine V_q (q_mov rfl rfl) rfl rfl ?_
    refine V_nil ?_
    refine fun w h => ⟨k + 1, ⟨by omega, by omega⟩, ⟨rfl, rfl, rfl, rfl, rfl, trivial⟩, ?_⟩
    have hnew : (lkE (wE (p.take k)) i.out).isSome = false := by
      cases h : (lkE (wE (p.take k)) i.out).isSome with
      | false => rfl
      | true =>
        obtain ⟨x, hx, h3, h4⟩ := (wE_some _ i.out).1 h
        exact absurd h4 (h2.new hk3 x hx h3)
    have e : putE (wE (p.take k)) i.out (.agg (Value.agg #[]).cells.toList.toArray) = wE (p.take (k + 1)) := by
      show putE (wE (p.take k)) i.out (.agg #[]) = _
      rw [ht, wE_snoc, if_pos hk3]
      unfold putE
      rw [hnew]; rfl
    rw [e] at h
    exact h.pick (by repeat (first | with_reducible exact Pick.nil | apply Pick.cons (by repeat (first | with_reducible exact Sel.head | apply Sel.tail)))) (by simp)
  · have hk3 : i.kind = 3 := by simpa using hb
    refine T_skip_next (fun _ => rfl) ?_
    refine T_reg rfl ?_
    refine V_q (q_addI rfl rfl rfl (by omega)) rfl rfl ?_
    refine V_q (q_mov rfl rfl) rfl rfl ?_
    refine V_nil ?_
    refine fun w h => ⟨k + 1, ⟨by omega, by omega⟩, ⟨rfl, rfl, rfl, rfl, rfl, trivial⟩, ?_⟩
    have e : wE (p.take (k + 1)) = wE (p.take k) := by rw [ht, wE_snoc, if_neg (by simp [hk3])]
    show St C [rMap kI r (wE (p.take (k + 1)))] _ _
    rw [e]
    exact h.pick (by repeat (first | with_reducible exact Pick.nil | apply Pick.cons (by repeat (first | with_reducible exact Sel.head | apply Sel.tail)))) (by simp)

section
variable {P : Program} {nn : Nat} {l : LEnv} {C : Ctx} {own : List Res} {ats : List Atom} {Q : Exit → LEnv → World → Prop}
/-- an element, whatever it is -/
theorem T_el {α : Type} {R : Rep α} {cd : Code} {xs : List α} {a : Option Addr} {n c : Nat} (i : Nat) (hs : In (aSl R xs a n c) ats) (hi : i < n)
    (h : ∀ x ad cs, xs[i]? = some x → ea a i R.k = some ad → cs.length = R.k → T P nn cd l C own (aCells ad cs :: aEl R x cs :: ats) Q) : T P nn cd l C own ats Q := by
  intro w hw
  have h1 : SlP R _ _ _ _ _ _ := hw.atom hs
  have hx : i < xs.length := by have := h1.1; omega
  obtain ⟨ad, cs, e1, e2, e3⟩ := h1.el hi hx
  exact h xs[i] ad cs (List.getElem?_eq_getElem hx) e1 (R.len e3) w ((hw.know (aEl R xs[i] cs) e3).know (aCells ad cs) e2)
/-- an element that is one cell -/
theorem T_el1 {α : Type} {R : Rep α} {cd : Code} {xs : List α} {a : Option Addr} {n c : Nat} (i : Nat) (hR : R.k = 1) (hs : In (aSl R xs a n c) ats) (hi : i < n)
    (h : ∀ x ad v, xs[i]? = some x → ea a i 1 = some ad → T P nn cd l C own (aCells ad [v] :: aEl R x [v] :: ats) Q) : T P nn cd l C own ats Q := by
  refine T_el i hs hi fun x ad cs hx had hl => ?_
  rw [hR] at hl had
  match cs, hl with
  | [v], _ => exact h x ad v hx had
theorem T_elSl {α : Type} {R : Rep α} {cd : Code} {x : List α} {v : Value} (hs : In (aEl (rSl R) x [v]) ats) (h : ∀ a n c, v = .slice a n c → T P nn cd l C own (aSl R x a n c :: ats) Q) : T P nn cd l C own ats Q := by
  intro w hw
  obtain ⟨a, n, c, e1, e2⟩ := (show (rSl R).p _ w x [v] from hw.atom hs)
  injection e1 with e1 _
  exact h a n c e1 w (hw.know (aSl R x a n c) e2)
end


theorem c_IndexP (f : FuncId) (cap : List Value) (rs : List Res) (pre : List Atom) (xs : List (List Inst)) (a : Option Addr) (m c : Nat) (he : Enters Tryz.prog f)
    (hf : ∀ x v, x ∈ xs → Con Tryz.prog f ([v] ++ cap).toArray rs (aEl (rSl rInst) x [v] :: pre) (fun _ : Unit => True) (fun _ => .bool false) (fun _ => rs) (fun _ => [])) :
    Con Tryz.prog 115 #[.slice a m c, .func (.func f) #[] cap.toArray] rs (aSl (rSl rInst) xs a m c :: pre)
    (fun _ : Unit => True) (fun _ => .int .i64 (-1)) (fun _ => rs) (fun _ => []) := by
  refine con_of (n := 19) Tryz.func115 rfl rfl rfl (by simp) ?_
  intro C hC
  refine T_pure (φ := m ≤ maxLen) (fun w h => Nat.le_trans (sl_len h (xs := xs) (a := a) (n := m) (c := c) (by repeat (first | with_reducible exact In.head | apply In.tail))).2.1 (sl_len h (xs := xs) (a := a) (n := m) (c := c) (by repeat (first | with_reducible exact In.head | apply In.tail))).2.2) (fun hmax => ?_)
  unfold maxLen at hmax
  refine T_seq (T_reg rfl ?_)
  refine V_q (q_asg rfl rfl) rfl rfl ?_
  refine V_next (fun _ => rfl) ?_
  refine T_seq ?_
  refine T_seq (T_reg rfl ?_)
  refine V_q (q_mov rfl rfl) rfl rfl ?_
  refine V_q (q_len rfl Tryz.underlying42 rfl) rfl rfl ?_
  refine V_q (q_mov rfl rfl) rfl rfl ?_
  refine V_next (fun _ => rfl) ?_
  refine T_block ?_
  refine T_loop (fun k : Nat => [(0, .slice a m c), (1, .func (.func f) #[] cap.toArray), (7, .int .i64 m), (8, .int .i64 k)]) (fun _ => rs) (fun _ => aSl (rSl rInst) xs a m c :: pre) (fun k => k ≤ m) (fun k => m - k) 0 (Nat.zero_le _) ⟨rfl, rfl, rfl, rfl, trivial⟩ (fun w h => h) ?_
  intro k hk
  refine T_seq (T_reg rfl ?_)
  refine V_q (q_lt rfl rfl rfl) rfl rfl ?_
  refine V_next (fun _ => rfl) ?_
  refine T_seq ?_
  refine T_cond rfl (fun hb => ?_) (fun hb => ?_)
  rotate_left
  · refine T_exit_next (fun _ => rfl) ?_
    refine T_seq (T_reg rfl ?_)
    refine V_q (q_asg rfl rfl) rfl rfl ?_
    refine V_next (fun _ => rfl) ?_
    exact T_ret fun w h => ⟨_, res_1 rfl, (), trivial, rfl, h.weak (List.Sublist.refl _) (by simp)⟩
  have hin : k < m := by
    have : (k : Int) < m := by simpa using hb
    omega
  clear hb
  refine T_el1 k rfl (xs := xs) (a := a) (n := m) (c := c) (by repeat (first | with_reducible exact In.head | apply In.tail)) hin fun x ad v hx had => ?_
  refine T_skip_next (fun _ => rfl) ?_
  refine T_seq ?_
  refine T_block ?_
  refine T_seq (T_reg rfl ?_)
  refine V_q (q_mov rfl rfl) rfl rfl ?_
  refine V_q (q_asg rfl rfl) rfl rfl ?_
  refine V_next (fun _ => rfl) ?_
  refine T_seq (T_reg rfl ?_)
  refine V_q (q_mov rfl rfl) rfl rfl ?_
  refine V_q (q_mov rfl rfl) rfl rfl ?_
  refine V_q (q_mov rfl rfl) rfl rfl ?_
  refine V_q (q_iaE rfl Tryz.underlying42 ty63 rfl rfl hin had) rfl rfl ?_
  refine V_q (q_ldR0 rfl ty63 rfl (by repeat (first | with_reducible exact In.head | apply In.tail))) rfl rfl ?_
  refine V_l (l_callF (cap := cap) rfl rfl he rfl (hf x v (List.mem_of_getElem? hx)) (Pick.all rs) (Ins.of (by simp +contextual)) (fun _ => App.all rs) (fun _ => App.nil)) rfl rfl ?_; rintro g16 -
  refine V_next (fun _ => rfl) ?_
  refine T_cond rfl (fun hb => ?_) (fun hb => ?_)
  · cases hb
  refine T_skip_next (fun _ => rfl) ?_
  refine T_reg rfl ?_
  refine V_q (q_addI rfl rfl rfl (by omega)) rfl rfl ?_
  refine V_q (q_mov rfl rfl) rfl rfl ?_
  refine V_nil ?_
  exact fun w h => ⟨k + 1, ⟨by omega, by omega⟩, ⟨rfl, rfl, rfl, rfl, trivial⟩, h.weak (List.Sublist.refl _) (by simp +contextual)⟩

theorem c_ContP (f : FuncId) (cap : List Value) (rs : List Res) (pre : List Atom) (xs : List (List Inst)) (a : Option Addr) (m c : Nat) (he : Enters Tryz.prog f)
    (hf : ∀ x v, x ∈ xs → Con Tryz.prog f ([v] ++ cap).toArray rs (aEl (rSl rInst) x [v] :: pre) (fun _ : Unit => True) (fun _ => .bool false) (fun _ => rs) (fun _ => [])) :
    Con Tryz.prog 84 #[.slice a m c, .func (.func f) #[] cap.toArray] rs (aSl (rSl rInst) xs a m c :: pre)
    (fun _ : Unit => True) (fun _ => .bool false) (fun _ => rs) (fun _ => []) := by
  refine con_of (n := 9) Tryz.func84 rfl rfl rfl (by simp) ?_
  intro C hC
  refine T_seq (T_reg rfl ?_)
  refine V_q (q_asg rfl rfl) rfl rfl ?_
  refine V_next (fun _ => rfl) ?_
  refine T_seq (T_reg rfl ?_)
  refine V_q (q_mov rfl rfl) rfl rfl ?_
  refine V_q (q_mov rfl rfl) rfl rfl ?_
  refine V_l (l_call rfl ent115 rfl (c_IndexP f cap rs pre xs a m c he hf) (Pick.all rs) (Ins.of (by simp +contextual)) (fun _ => App.all rs) (fun _ => App.nil)) rfl rfl ?_; rintro g7 -
  refine V_q (q_ge rfl rfl rfl) rfl rfl ?_
  refine V_q (q_asg rfl rfl) rfl rfl ?_
  refine V_next (fun _ => rfl) ?_
  exact T_ret fun w h => ⟨_, res_1 rfl, (), trivial, rfl, h.weak (List.Sublist.refl _) (by simp)⟩

theorem c_Right1 (x : List Inst) (v : Value) (hx : x.length ≤ 65536) : Con Tryz.prog 85 #[v] [] [aEl (rSl rInst) x [v]]
    (fun _ : Unit => True) (fun _ => .bool false) (fun _ => []) (fun _ => []) := by
  refine con_of (n := 6) Tryz.func85 rfl rfl rfl (by simp) ?_
  intro C hC
  refine T_elSl (by repeat (first | with_reducible exact In.head | apply In.tail)) fun a n c hv => ?_
  subst hv
  refine T_pure (φ := n = x.length) (fun w h => (sl_len h (xs := x) (a := a) (n := n) (c := c) (by repeat (first | with_reducible exact In.head | apply In.tail))).1) (fun hn => ?_)
  refine T_seq (T_reg rfl ?_)
  refine V_q (q_asg rfl rfl) rfl rfl ?_
  refine V_next (fun _ => rfl) ?_
  refine T_seq (T_reg rfl ?_)
  refine V_q (q_mov rfl rfl) rfl rfl ?_
  refine V_q (q_len rfl Tryz.underlying63 rfl) rfl rfl ?_
  refine V_q (q_gt rfl rfl rfl) rfl rfl ?_
  refine V_q (q_asg rfl rfl) rfl rfl ?_
  refine V_next (fun _ => rfl) ?_
  rw [decide_eq_false (show ¬ (65536 : Int) < n by omega)]
  exact T_ret fun w h => ⟨_, res_1 rfl, (), trivial, rfl, h.weak (List.Sublist.refl _) (by simp)⟩

theorem c_codeRight (l : List (List Inst)) (hn : 1 ≤ l.length ∧ l.length ≤ 8) (hl : ∀ p ∈ l, p.length ≤ 65536 ∧ PrOk l.length p) (a : Option Addr) (n c : Nat) : Con Tryz.prog 57 #[.slice a n c] [] [aSl (rSl rInst) l a n c]
    (fun _ : Unit => True) (fun _ => .int .i64 0) (fun _ => []) (fun _ => []) := by
  refine con_of (n := 30) Tryz.func57 rfl rfl rfl (by simp) ?_
  intro C hC
  refine T_pure (φ := n = l.length) (fun w h => (sl_len h (xs := l) (a := a) (n := n) (c := c) (by repeat (first | with_reducible exact In.head | apply In.tail))).1) (fun hln => ?_)
  refine T_seq (T_reg rfl ?_)
  refine V_q (q_asg rfl rfl) rfl rfl ?_
  refine V_next (fun _ => rfl) ?_
  refine T_seq ?_
  refine T_seq (T_reg rfl ?_)
  refine V_q (q_mov rfl rfl) rfl rfl ?_
  refine V_q (q_len rfl Tryz.underlying42 rfl) rfl rfl ?_
  refine V_q (q_lt rfl rfl rfl) rfl rfl ?_
  refine V_q (q_mov rfl rfl) rfl rfl ?_
  rw [decide_eq_false (show ¬ (n : Int) < 1 by omega)]
  refine V_want (q_mov rfl rfl) rfl rfl ?_
  refine V_want (q_len rfl Tryz.underlying42 rfl) rfl rfl ?_
  refine V_want (q_gt rfl rfl rfl) rfl rfl ?_
  refine V_q (q_pick rfl rfl rfl rfl) rfl rfl ?_
  refine V_next (fun _ => rfl) ?_
  rw [decide_eq_false (show ¬ (8 : Int) < n by omega)]
  refine T_cond rfl (fun hb => ?_) (fun hb => ?_)
  · cases hb
  refine T_skip_next (fun _ => rfl) ?_
  refine T_seq ?_
  refine T_seq (T_reg rfl ?_)
  refine V_q (q_mov rfl rfl) rfl rfl ?_
  refine V_l (l_call rfl ent84 rfl (c_ContP 85 [] [] [] l a n c ent85 (fun x v hx => c_Right1 x v (hl x hx).1)) (by repeat (first | with_reducible exact Pick.nil | apply Pick.cons (by repeat (first | with_reducible exact Sel.head | apply Sel.tail)))) (by repeat (first | with_reducible exact Ins.nil | refine Ins.cons (by repeat (first | with_reducible exact In.head | apply In.tail)) ?_)) (fun _ => (by repeat (first | with_reducible exact App.nil | apply App.cons))) (fun _ => (by repeat (first | with_reducible exact App.nil | apply App.cons)))) rfl rfl ?_; rintro g15 -
  refine V_next (fun _ => rfl) ?_
  refine T_cond rfl (fun hb => ?_) (fun hb => ?_)
  · cases hb
  refine T_skip_next (fun _ => rfl) ?_
  refine T_seq ?_
  refine T_seq (T_reg rfl ?_)
  refine V_q (q_mov rfl rfl) rfl rfl ?_
  refine V_q (q_len rfl Tryz.underlying42 rfl) rfl rfl ?_
  refine V_q (q_mov rfl rfl) rfl rfl ?_
  refine V_next (fun _ => rfl) ?_
  refine T_block ?_
  refine T_loop (fun k : Nat => [(0, .slice a n c), (16, .slice a n c), (17, .int .i64 n), (18, .int .i64 k)]) (fun _ => []) (fun _ => [aSl (rSl rInst) l a n c]) (fun k => k ≤ n) (fun k => n - k) 0 (Nat.zero_le _) ⟨rfl, rfl, rfl, rfl, trivial⟩ (fun w h => h) ?_
  intro k hk
  refine T_seq (T_reg rfl ?_)
  refine V_q (q_lt rfl rfl rfl) rfl rfl ?_
  refine V_next (fun _ => rfl) ?_
  refine T_seq ?_
  refine T_cond rfl (fun hb => ?_) (fun hb => ?_)
  rotate_left
  · refine T_exit_next (fun _ => rfl) ?_
    refine T_seq (T_reg rfl ?_)
    refine V_q (q_asg rfl rfl) rfl rfl ?_
    refine V_next (fun _ => rfl) ?_
    exact T_ret fun w h => ⟨_, res_1 rfl, (), trivial, rfl, h.weak (List.nil_sublist _) (by simp)⟩
  have hin : k < n := by
    have : (k : Int) < n := by simpa using hb
    omega
  clear hb
  refine T_el1 k rfl (xs := l) (a := a) (n := n) (c := c) (by repeat (first | with_reducible exact In.head | apply In.tail)) hin fun x ad v hx had => ?_
  have hxl := hl x (List.mem_of_getElem? hx)
  rw [← hln] at hxl
  refine T_elSl (by repeat (first | with_reducible exact In.head | apply In.tail)) fun pa pn pc hv => ?_
  subst hv
  refine T_skip_next (fun _ => rfl) ?_
  refine T_seq ?_
  refine T_block ?_
  refine T_seq (T_reg rfl ?_)
  refine V_q (q_iaE rfl Tryz.underlying42 ty63 rfl rfl hin had) rfl rfl ?_
  refine V_q (q_ldR0 rfl ty63 rfl (by repeat (first | with_reducible exact In.head | apply In.tail))) rfl rfl ?_
  refine V_q (q_asg rfl rfl) rfl rfl ?_
  refine V_next (fun _ => rfl) ?_
  refine T_seq (T_reg rfl ?_)
  refine V_q (q_mov rfl rfl) rfl rfl ?_
  refine V_q (q_mov rfl rfl) rfl rfl ?_
  refine V_q (q_len rfl Tryz.underlying42 rfl) rfl rfl ?_
  refine V_l (l_call rfl ent86 rfl (c_program n x hxl.2 pa pn pc) (by repeat (first | with_reducible exact Pick.nil | apply Pick.cons (by repeat (first | with_reducible exact Sel.head | apply Sel.tail)))) (by repeat (first | with_reducible exact Ins.nil | refine Ins.cons (by repeat (first | with_reducible exact In.head | apply In.tail)) ?_)) (fun _ => (by repeat (first | with_reducible exact App.nil | apply App.cons))) (fun _ => (by repeat (first | with_reducible exact App.nil | apply App.cons)))) rfl rfl ?_; rintro g25 -
  refine V_q (q_asg rfl rfl) rfl rfl ?_
  refine V_next (fun _ => rfl) ?_
  refine T_seq (T_reg rfl ?_)
  refine V_q (q_mov rfl rfl) rfl rfl ?_
  refine V_q (q_ne rfl rfl rfl) rfl rfl ?_
  refine V_next (fun _ => rfl) ?_
  refine T_cond rfl (fun hb => ?_) (fun hb => ?_)
  · cases hb
  refine T_skip_next (fun _ => rfl) ?_
  refine T_reg rfl ?_
  refine V_q (q_addI rfl rfl rfl (by omega)) rfl rfl ?_
  refine V_q (q_mov rfl rfl) rfl rfl ?_
  refine V_nil ?_
  exact fun w h => ⟨k + 1, ⟨by omega, by omega⟩, ⟨rfl, rfl, rfl, rfl, trivial⟩, h.weak (List.Sublist.refl _) (by simp)⟩
end Go.Proofs.YtgbhegmhbeekpaaGreat
