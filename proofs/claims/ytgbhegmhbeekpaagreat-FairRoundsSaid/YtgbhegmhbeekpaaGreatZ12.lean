/-
  Instructions and programs by themselves.
-/
import Derived.Test.YtgbhegmhbeekpaaGreatZ11
namespace Go.Proofs.YtgbhegmhbeekpaaGreat
open Go
set_option maxRecDepth 100000

abbrev ndC (x : Nd) (a1 : Option Addr) (n1 c1 : Nat) (a2 : Option Addr) (n2 c2 : Nat) (a3 : Option Addr) (n3 c3 : Nat) : List Value :=
  [.int .i64 x.op, .slice a1 n1 c1, .slice a2 n2 c2, .slice a3 n3 c3, .int .i64 x.n, .int .i64 x.how, .string x.note]

theorem c_CopyNode (x : Nd) (a1 a2 a3 : Option Addr) (n1 c1 n2 c2 n3 c3 : Nat) (h1 : n1 ≤ 1000000) (h2 : n2 ≤ 1000000) (h3 : n3 ≤ 1000000) : Con Tryz.prog 118 #[.agg (ndC x a1 n1 c1 a2 n2 c2 a3 n3 c3).toArray] [] [aSl I x.inn a1 n1 c1, aSl I x.sh a2 n2 c2, aSl I x.a a3 n3 c3]
    (fun _ : (Option Addr × Nat) × (Option Addr × Nat) × Option Addr × Nat => True) (fun y => .agg (ndC x y.1.1 n1 y.1.2 y.2.1.1 n2 y.2.1.2 y.2.2.1 n3 y.2.2.2).toArray) (fun _ => []) (fun y => [aSl I x.inn y.1.1 n1 y.1.2, aSl I x.sh y.2.1.1 n2 y.2.1.2, aSl I x.a y.2.2.1 n3 y.2.2.2]) := by
  refine con_of (n := 16) Tryz.func118 rfl rfl rfl (by simp) ?_
  intro C hC
  refine T_seq (T_reg rfl ?_)
  refine V_l (l_boxA rfl rfl) rfl rfl ?_; rintro g1 -
  refine V_l (l_alloc (cs := [.int .i64 0, .slice none 0 0, .slice none 0 0, .slice none 0 0, .int .i64 0, .int .i64 0, .string ByteArray.empty]) rfl tz35 rfl) rfl rfl ?_; rintro g2 -
  refine V_next (fun _ => rfl) ?_
  refine T_seq (T_drawn hmix (.pure 0 <| .quiet 1 <| .pure 3 <| .quiet 4 <| .pure 6 <| .quiet 7 <| .loud 2 <| .pure 9 <| .loud 5 <| .loud 8 <| .bar 10 <| .pure 11 <| .bar 12 <| .pure 13 <| .bar 14 <| .fin) (by decide +kernel) ?_)
  refine W_p rfl (q_fa rfl fd35_1 rfl) rfl rfl ?_
  refine W_ld rfl rfl ty22 rfl (by repeat (first | with_reducible exact Sel.head | apply Sel.tail)) rfl rfl rfl ?_
  refine W_p rfl (q_fa rfl fd35_2 rfl) rfl rfl ?_
  refine W_ld rfl rfl ty22 rfl (by repeat (first | with_reducible exact Sel.head | apply Sel.tail)) rfl rfl rfl ?_
  refine W_p rfl (q_fa rfl fd35_3 rfl) rfl rfl ?_
  refine W_ld rfl rfl ty22 rfl (by repeat (first | with_reducible exact Sel.head | apply Sel.tail)) rfl rfl rfl ?_
  refine W_l rfl (l_call rfl ent90 rfl (c_CloneI x.inn a1 n1 c1 (by omega)) (by repeat (first | with_reducible exact Pick.nil | apply Pick.cons (by repeat (first | with_reducible exact Sel.head | apply Sel.tail)))) (by repeat (first | with_reducible exact Ins.nil | refine Ins.cons (by repeat (first | with_reducible exact In.head | apply In.tail)) ?_)) (fun _ => (by repeat (first | with_reducible exact App.nil | apply App.cons))) (fun _ => (by repeat (first | with_reducible exact App.nil | apply App.cons)))) (fun _ _ h => by repeat (first | exact trivial | refine ⟨?_, h.weak (by repeat (first | exact List.Sublist.refl _ | exact List.nil_sublist _ | with_reducible apply List.Sublist.cons_cons | apply List.Sublist.cons)) (by simp +contextual)⟩)) rfl rfl ?_; rintro ⟨b1, d1⟩ -
  refine W_p rfl (q_fa rfl fd35_1 rfl) rfl rfl ?_
  refine W_l rfl (l_call rfl ent90 rfl (c_CloneI x.sh a2 n2 c2 (by omega)) (by repeat (first | with_reducible exact Pick.nil | apply Pick.cons (by repeat (first | with_reducible exact Sel.head | apply Sel.tail)))) (by repeat (first | with_reducible exact Ins.nil | refine Ins.cons (by repeat (first | with_reducible exact In.head | apply In.tail)) ?_)) (fun _ => (by repeat (first | with_reducible exact App.nil | apply App.cons))) (fun _ => (by repeat (first | with_reducible exact App.nil | apply App.cons)))) (fun _ _ h => by repeat (first | exact trivial | refine ⟨?_, h.weak (by repeat (first | exact List.Sublist.refl _ | exact List.nil_sublist _ | with_reducible apply List.Sublist.cons_cons | apply List.Sublist.cons)) (by simp +contextual)⟩)) rfl rfl ?_; rintro ⟨b2, d2⟩ -
  refine W_l rfl (l_call rfl ent90 rfl (c_CloneI x.a a3 n3 c3 (by omega)) (by repeat (first | with_reducible exact Pick.nil | apply Pick.cons (by repeat (first | with_reducible exact Sel.head | apply Sel.tail)))) (by repeat (first | with_reducible exact Ins.nil | refine Ins.cons (by repeat (first | with_reducible exact In.head | apply In.tail)) ?_)) (fun _ => (by repeat (first | with_reducible exact App.nil | apply App.cons))) (fun _ => (by repeat (first | with_reducible exact App.nil | apply App.cons)))) (fun _ _ h => by repeat (first | exact trivial | refine ⟨?_, h.weak (by repeat (first | exact List.Sublist.refl _ | exact List.nil_sublist _ | with_reducible apply List.Sublist.cons_cons | apply List.Sublist.cons)) (by simp +contextual)⟩)) rfl rfl ?_; rintro ⟨b3, d3⟩ -
  refine W_bn rfl (l_st rfl ty22 rfl rfl rfl rfl rfl (by repeat (first | with_reducible exact Put.head | apply Put.tail)) (by repeat (first | exact PutL.z | apply PutL.s | apply PutL.t))) rfl rfl ?_; rintro ⟨⟩ -
  refine W_p rfl (q_fa rfl fd35_2 rfl) rfl rfl ?_
  refine W_bn rfl (l_st rfl ty22 rfl rfl rfl rfl rfl (by repeat (first | with_reducible exact Put.head | apply Put.tail)) (by repeat (first | exact PutL.z | apply PutL.s | apply PutL.t))) rfl rfl ?_; rintro ⟨⟩ -
  refine W_p rfl (q_fa rfl fd35_3 rfl) rfl rfl ?_
  refine W_bn rfl (l_st rfl ty22 rfl rfl rfl rfl rfl (by repeat (first | with_reducible exact Put.head | apply Put.tail)) (by repeat (first | exact PutL.z | apply PutL.s | apply PutL.t))) rfl rfl ?_; rintro ⟨⟩ -
  refine W_next (fun _ => rfl) ?_
  refine T_seq (T_reg rfl ?_)
  refine V_q (q_ldA rfl ty35 rfl (by repeat (first | with_reducible exact Sel.head | apply Sel.tail)) (by repeat (first | exact SubL.z | apply SubL.s | apply SubL.t))) rfl rfl ?_
  refine V_n (l_st rfl ty35 rfl rfl rfl rfl rfl (by repeat (first | with_reducible exact Put.head | apply Put.tail)) (by repeat (first | exact PutL.z | apply PutL.s | apply PutL.t))) rfl rfl ?_; rintro ⟨⟩ -
  refine V_next (fun _ => rfl) ?_
  exact T_ret fun w h => ⟨_, res_c rfl ty35 rfl (h.res (by repeat (first | with_reducible exact Sel.head | apply Sel.tail))), ((b1, d1), (b2, d2), (b3, d3)), trivial, rfl, h.weak (List.nil_sublist _) (by simp)⟩
theorem c_own (i : Inst) (a0 a1 a2 a3 : Option Addr) (n0 c0 n1 c1 n2 c2 n3 c3 : Nat) (h0 : n0 ≤ 1000000) (h1 : n1 ≤ 1000000) (h2 : n2 ≤ 1000000) (h3 : n3 ≤ 1000000) : Con Tryz.prog 87 #[.agg (instC i i.out a0 n0 c0 a1 n1 c1 a2 n2 c2 a3 n3 c3).toArray] [] [aSl I i.inn a0 n0 c0, aSl I i.node.inn a1 n1 c1, aSl I i.node.sh a2 n2 c2, aSl I i.node.a a3 n3 c3]
    (fun _ : (Option Addr × Nat) × (Option Addr × Nat) × (Option Addr × Nat) × Option Addr × Nat => True) (fun y => .agg (instC i i.out y.1.1 n0 y.1.2 y.2.1.1 n1 y.2.1.2 y.2.2.1.1 n2 y.2.2.1.2 y.2.2.2.1 n3 y.2.2.2.2).toArray) (fun _ => [])
    (fun y => [aSl I i.inn y.1.1 n0 y.1.2, aSl I i.node.inn y.2.1.1 n1 y.2.1.2, aSl I i.node.sh y.2.2.1.1 n2 y.2.2.1.2, aSl I i.node.a y.2.2.2.1 n3 y.2.2.2.2]) := by
  refine con_of (n := 12) Tryz.func87 rfl rfl rfl (by simp) ?_
  intro C hC
  refine T_seq (T_reg rfl ?_)
  refine V_l (l_boxA rfl rfl) rfl rfl ?_; rintro g1 -
  refine V_l (l_alloc (cs := [.int .i64 0, .int .i64 0, .slice none 0 0, .int .i64 0, .slice none 0 0, .slice none 0 0, .slice none 0 0, .int .i64 0, .int .i64 0, .string ByteArray.empty, .int .i64 0, .int .i64 0, .int .i64 0]) rfl tz112 rfl) rfl rfl ?_; rintro g2 -
  refine V_next (fun _ => rfl) ?_
  refine T_seq (T_drawn hmix (.pure 0 <| .quiet 1 <| .pure 3 <| .quiet 4 <| .loud 2 <| .pure 6 <| .loud 5 <| .bar 7 <| .pure 8 <| .bar 9 <| .fin) (by decide +kernel) ?_)
  refine W_p rfl (q_fa rfl fd112_2 rfl) rfl rfl ?_
  refine W_ld rfl rfl ty22 rfl (by repeat (first | with_reducible exact Sel.head | apply Sel.tail)) rfl rfl rfl ?_
  refine W_p rfl (q_fa rfl fd112_3 rfl) rfl rfl ?_
  refine W_ldA rfl rfl ty35 rfl (by repeat (first | with_reducible exact Sel.head | apply Sel.tail)) (by repeat (first | exact SubL.z | apply SubL.s | apply SubL.t)) rfl rfl ?_
  refine W_l rfl (l_call rfl ent90 rfl (c_CloneI i.inn a0 n0 c0 (by omega)) (by repeat (first | with_reducible exact Pick.nil | apply Pick.cons (by repeat (first | with_reducible exact Sel.head | apply Sel.tail)))) (by repeat (first | with_reducible exact Ins.nil | refine Ins.cons (by repeat (first | with_reducible exact In.head | apply In.tail)) ?_)) (fun _ => (by repeat (first | with_reducible exact App.nil | apply App.cons))) (fun _ => (by repeat (first | with_reducible exact App.nil | apply App.cons)))) (fun _ _ h => by repeat (first | exact trivial | refine ⟨?_, h.weak (by repeat (first | exact List.Sublist.refl _ | exact List.nil_sublist _ | with_reducible apply List.Sublist.cons_cons | apply List.Sublist.cons)) (by simp +contextual)⟩)) rfl rfl ?_; rintro ⟨b0, d0⟩ -
  refine W_p rfl (q_fa rfl fd112_2 rfl) rfl rfl ?_
  refine W_l rfl (l_call rfl ent118 rfl (c_CopyNode i.node a1 a2 a3 n1 c1 n2 c2 n3 c3 h1 h2 h3) (by repeat (first | with_reducible exact Pick.nil | apply Pick.cons (by repeat (first | with_reducible exact Sel.head | apply Sel.tail)))) (by repeat (first | with_reducible exact Ins.nil | refine Ins.cons (by repeat (first | with_reducible exact In.head | apply In.tail)) ?_)) (fun _ => (by repeat (first | with_reducible exact App.nil | apply App.cons))) (fun _ => (by repeat (first | with_reducible exact App.nil | apply App.cons)))) (fun _ _ h => by repeat (first | exact trivial | refine ⟨?_, h.weak (by repeat (first | exact List.Sublist.refl _ | exact List.nil_sublist _ | with_reducible apply List.Sublist.cons_cons | apply List.Sublist.cons)) (by simp +contextual)⟩)) rfl rfl ?_; rintro ⟨⟨b1, d1⟩, ⟨b2, d2⟩, b3, d3⟩ -
  refine W_bn rfl (l_st rfl ty22 rfl rfl rfl rfl rfl (by repeat (first | with_reducible exact Put.head | apply Put.tail)) (by repeat (first | exact PutL.z | apply PutL.s | apply PutL.t))) rfl rfl ?_; rintro ⟨⟩ -
  refine W_p rfl (q_fa rfl fd112_3 rfl) rfl rfl ?_
  refine W_bn rfl (l_st rfl ty35 rfl rfl rfl rfl rfl (by repeat (first | with_reducible exact Put.head | apply Put.tail)) (by repeat (first | exact PutL.z | apply PutL.s | apply PutL.t))) rfl rfl ?_; rintro ⟨⟩ -
  refine W_next (fun _ => rfl) ?_
  refine T_seq (T_reg rfl ?_)
  refine V_q (q_ldA rfl ty112 rfl (by repeat (first | with_reducible exact Sel.head | apply Sel.tail)) (by repeat (first | exact SubL.z | apply SubL.s | apply SubL.t))) rfl rfl ?_
  refine V_n (l_st rfl ty112 rfl rfl rfl rfl rfl (by repeat (first | with_reducible exact Put.head | apply Put.tail)) (by repeat (first | exact PutL.z | apply PutL.s | apply PutL.t))) rfl rfl ?_; rintro ⟨⟩ -
  refine V_next (fun _ => rfl) ?_
  exact T_ret fun w h => ⟨_, res_c rfl ty112 rfl (h.res (by repeat (first | with_reducible exact Sel.head | apply Sel.tail))), ((b0, d0), (b1, d1), (b2, d2), (b3, d3)), trivial, rfl, h.weak (List.nil_sublist _) (by simp)⟩

/-- an instruction whose lists are not too long -/
def Sm (i : Inst) : Prop := i.inn.length ≤ 1000000 ∧ i.node.inn.length ≤ 1000000 ∧ i.node.sh.length ≤ 1000000 ∧ i.node.a.length ≤ 1000000

def cpy (l : List (List Inst)) (d k : Nat) : List (List Inst) := (List.range l.length).map fun j => if j < d then l.getD j [] else if j = d then (l.getD j []).take k else []
theorem cpy_len (l : List (List Inst)) (d k : Nat) : (cpy l d k).length = l.length := by simp [cpy]
theorem cpy_get {l : List (List Inst)} {d k : Nat} (hd : d < l.length) : (cpy l d k)[d]? = some ((l.getD d []).take k) := by simp [cpy, hd]
theorem cpy_set {l : List (List Inst)} {d k : Nat} {i : Inst} (hd : d < l.length) (hi : (l.getD d [])[k]? = some i) : (cpy l d k).set d ((l.getD d []).take k ++ [i]) = cpy l d (k + 1) := by
  unfold cpy
  rw [range_upd (f := fun j => if j < d then l.getD j [] else if j = d then (l.getD j []).take k else []) (g := fun j => if j < d then l.getD j [] else if j = d then (l.getD j []).take (k + 1) else []) hd fun x hx => by simp [hx]]
  simp only [Nat.lt_irrefl, if_false, if_true]
  rw [List.take_add_one, hi]; rfl
theorem cpy_next {l : List (List Inst)} {d : Nat} (hd : d < l.length) : cpy l d (l.getD d []).length = cpy l (d + 1) 0 := by
  unfold cpy
  refine List.map_congr_left fun j _ => ?_
  by_cases h1 : j < d
  · rw [if_pos h1, if_pos (by omega)]
  · by_cases h2 : j = d
    · subst h2; rw [if_neg h1, if_pos rfl, if_pos (by omega), List.take_length]
    · rw [if_neg h1, if_neg h2, if_neg (by omega)]
      split <;> simp
theorem cpy_zero (l : List (List Inst)) : cpy l 0 0 = List.replicate l.length [] := by
  unfold cpy
  rw [← List.length_range (n := l.length), ← List.map_const']
  rw [List.length_range]
  refine List.map_congr_left fun j _ => ?_
  by_cases h2 : j = 0 <;> simp [h2]
theorem cpy_all (l : List (List Inst)) : cpy l l.length 0 = l := by
  unfold cpy
  apply List.ext_getElem?
  intro j
  rw [List.getElem?_map]
  by_cases h : j < l.length
  · rw [List.getElem?_range h]
    simp [h, List.getD_eq_getElem?_getD]
  · rw [List.getElem?_eq_none (by simp; omega), List.getElem?_eq_none (by omega)]; rfl

theorem c_codeCopy (l : List (List Inst)) (a : Option Addr) (n c : Nat) (hn : n ≤ 1000000) (hl : ∀ p ∈ l, p.length ≤ 1000000 ∧ ∀ i ∈ p, Sm i) : Con Tryz.prog 59 #[.slice a n c] [] [aSl (rSl rInst) l a n c]
    (fun _ : Nat => True) (fun g => .slice (some ⟨g, 0, none⟩) n n) (fun _ => []) (fun g => [aSl (rSl rInst) l (some ⟨g, 0, none⟩) n n]) := by
  refine con_of (n := 38) Tryz.func59 rfl rfl rfl (by simp) ?_
  intro C hC
  refine T_pure (φ := n = l.length) (fun w h => (sl_len h (xs := l) (a := a) (n := n) (c := c) (by repeat (first | with_reducible exact In.head | apply In.tail))).1) (fun hln => ?_)
  refine T_seq (T_reg rfl ?_)
  refine V_q (q_asg rfl rfl) rfl rfl ?_
  refine V_next (fun _ => rfl) ?_
  refine T_seq (T_reg rfl ?_)
  refine V_q (q_mov rfl rfl) rfl rfl ?_
  refine V_q (q_len rfl Tryz.underlying42 rfl) rfl rfl ?_
  refine V_l (l_make [.slice none 0 0] rfl Tryz.underlying42 ty63 tz63 tb63 rfl rfl rfl rfl (by omega) (by unfold maxLen; omega)) rfl rfl ?_; rintro g -
  refine V_q (q_asg rfl rfl) rfl rfl ?_
  refine V_next (fun _ => rfl) ?_
  refine T_ghost (fun w h => h.rowsNone 112 13 n) ?_
  refine T_seq ?_
  refine T_seq (T_reg rfl ?_)
  refine V_q (q_mov rfl rfl) rfl rfl ?_
  refine V_q (q_len rfl Tryz.underlying42 rfl) rfl rfl ?_
  refine V_q (q_mov rfl rfl) rfl rfl ?_
  refine V_next (fun _ => rfl) ?_
  refine T_block ?_
  refine T_loop (fun y : Nat × List RowT => [(3, .slice (some ⟨g, 0, none⟩) n n), (11, .slice a n c), (12, .int .i64 n), (13, .int .i64 y.1)]) (fun y => [rBlk g 63 (y.2.map (·.1)), rAll (y.2.map (rRow 112 13))]) (fun y => [aEvs rInst (cpy l y.1 0) y.2, aSl (rSl rInst) l a n c]) (fun y => y.1 ≤ n) (fun y => n - y.1) (0, List.replicate n (.slice none 0 0, 0, [])) (Nat.zero_le _) ⟨rfl, rfl, rfl, rfl, trivial⟩ (fun w h => ?_) ?_
  · have e1 : zerosL [Value.slice none 0 0] n = (List.replicate n ((.slice none 0 0, 0, []) : RowT)).map (·.1) := by rw [zerosL_one, List.map_replicate]
    rw [e1] at h
    have k1 := h.know (aEvs rInst (cpy l 0 0) (List.replicate n (.slice none 0 0, 0, []))) (by
      rw [cpy_zero, ← hln]; exact EvsP.empty rInst _ _ n)
    exact k1.pick (by repeat (first | with_reducible exact Pick.nil | apply Pick.cons (by repeat (first | with_reducible exact Sel.head | apply Sel.tail)))) (by simp)
  rintro ⟨d, L⟩ hd
  replace hd : d ≤ n := hd
  refine T_seq (T_reg rfl ?_)
  refine V_q (q_lt rfl rfl rfl) rfl rfl ?_
  refine V_next (fun _ => rfl) ?_
  refine T_seq ?_
  refine T_cond rfl (fun hb => ?_) (fun hb => ?_)
  rotate_left
  · have hie : d = n := by
      have : ¬ (d : Int) < n := by simpa using hb
      omega
    subst hie
    refine T_exit_next (fun _ => rfl) ?_
    refine T_seq (T_reg rfl ?_)
    refine V_q (q_mov rfl rfl) rfl rfl ?_
    refine V_q (q_asg rfl rfl) rfl rfl ?_
    refine V_next (fun _ => rfl) ?_
    refine T_ret fun w h => ?_
    have h1 := St.sealR rInst (xss := cpy l d 0) (L := L) (g := g) (t := 63) (e := 112) (k := 13) (n := d) h rfl (by repeat (first | with_reducible exact Pick.nil | apply Pick.cons (by repeat (first | with_reducible exact Sel.head | apply Sel.tail)))) (by decide) (by repeat (first | with_reducible exact In.head | apply In.tail)) (by rw [cpy_len]; exact hln.symm) (by unfold maxLen; omega)
    have e2 : cpy l d 0 = l := by rw [hln]; exact cpy_all l
    rw [e2] at h1
    exact ⟨_, res_1 rfl, g, trivial, rfl, h1.weak (List.nil_sublist _) (by simp)⟩
  have hin : d < n := by
    have : (d : Int) < n := by simpa using hb
    omega
  clear hb
  refine T_el1 d rfl (xs := l) (a := a) (n := n) (c := c) (by repeat (first | with_reducible exact In.head | apply In.tail)) hin fun p ad v hx had => ?_
  have hpl := hl p (List.mem_of_getElem? hx)
  refine T_elSl (by repeat (first | with_reducible exact In.head | apply In.tail)) fun pa m pc hv => ?_
  subst hv
  have hpd : l.getD d [] = p := by rw [List.getD_eq_getElem?_getD, hx]; rfl
  refine T_pure (φ := m = p.length) (fun w h => (sl_len h (xs := p) (a := pa) (n := m) (c := pc) (by repeat (first | with_reducible exact In.head | apply In.tail))).1) (fun hm => ?_)
  refine T_skip_next (fun _ => rfl) ?_
  refine T_seq ?_
  refine T_block ?_
  refine T_seq (T_reg rfl ?_)
  refine V_q (q_mov rfl rfl) rfl rfl ?_
  refine V_q (q_iaE rfl Tryz.underlying42 ty63 rfl rfl hin had) rfl rfl ?_
  refine V_q (q_ldR0 rfl ty63 rfl (by repeat (first | with_reducible exact In.head | apply In.tail))) rfl rfl ?_
  refine V_q (q_asg rfl rfl) rfl rfl ?_
  refine V_q (q_asg rfl rfl) rfl rfl ?_
  refine V_next (fun _ => rfl) ?_
  refine T_seq (T_reg rfl ?_)
  refine V_q (q_mov rfl rfl) rfl rfl ?_
  refine V_q (q_len rfl Tryz.underlying63 rfl) rfl rfl ?_
  refine V_q (q_mov rfl rfl) rfl rfl ?_
  refine V_next (fun _ => rfl) ?_
  refine T_block ?_
  refine T_loop (fun y : Nat × List RowT => [(3, .slice (some ⟨g, 0, none⟩) n n), (4, .int .i64 d), (11, .slice a n c), (12, .int .i64 n), (13, .int .i64 d), (18, .slice pa m pc), (19, .int .i64 m), (20, .int .i64 y.1)]) (fun y => [rBlk g 63 (y.2.map (·.1)), rAll (y.2.map (rRow 112 13))]) (fun y => [aEvs rInst (cpy l d y.1) y.2, aSl (rSl rInst) l a n c, aSl rInst p pa m pc]) (fun y => y.1 ≤ m) (fun y => m - y.1) (0, L) (Nat.zero_le _) ⟨rfl, rfl, rfl, rfl, rfl, rfl, rfl, rfl, trivial⟩ (fun w h => h.pick (by repeat (first | with_reducible exact Pick.nil | apply Pick.cons (by repeat (first | with_reducible exact Sel.head | apply Sel.tail)))) (by simp)) ?_
  rintro ⟨k, L'⟩ hk
  replace hk : k ≤ m := hk
  refine T_seq (T_reg rfl ?_)
  refine V_q (q_lt rfl rfl rfl) rfl rfl ?_
  refine V_next (fun _ => rfl) ?_
  refine T_seq ?_
  refine T_cond rfl (fun hb => ?_) (fun hb => ?_)
  rotate_left
  · have hie : k = m := by
      have : ¬ (k : Int) < m := by simpa using hb
      omega
    subst hie
    refine T_exit_next (fun _ => rfl) ?_
    refine T_reg rfl ?_
    refine V_q (q_addI rfl rfl rfl (by omega)) rfl rfl ?_
    refine V_q (q_mov rfl rfl) rfl rfl ?_
    refine V_nil ?_
    refine fun w h => ⟨(d + 1, L'), ⟨by show n - (d + 1) < n - d; omega, by show d + 1 ≤ n; omega⟩, ⟨rfl, rfl, rfl, rfl, trivial⟩, ?_⟩
    have e3 : cpy l d k = cpy l (d + 1) 0 := by rw [hm, ← hpd]; exact cpy_next (by omega)
    rw [e3] at h
    exact h.pick (by repeat (first | with_reducible exact Pick.nil | apply Pick.cons (by repeat (first | with_reducible exact Sel.head | apply Sel.tail)))) (by simp)
  have hkm : k < m := by
    have : (k : Int) < m := by simpa using hb
    omega
  clear hb
  refine T_inst k (xs := p) (a := pa) (by repeat (first | with_reducible exact In.head | apply In.tail)) hkm fun i ad2 a0 n0 c0 a1 n1 c1 a2 n2 c2 a3 n3 c3 hi had2 => ?_
  have hsm := hpl.2 i (List.mem_of_getElem? hi)
  refine T_pure (φ := (n0 ≤ 1000000 ∧ n1 ≤ 1000000 ∧ n2 ≤ 1000000 ∧ n3 ≤ 1000000) ∧ ∃ v cs, L'[d]? = some (v, k, cs)) (fun w h => ?_) (fun hx2 => ?_)
  · have l0 := (sl_len h (xs := i.inn) (a := a0) (n := n0) (c := c0) (by repeat (first | with_reducible exact In.head | apply In.tail))).1
    have l1 := (sl_len h (xs := i.node.inn) (a := a1) (n := n1) (c := c1) (by repeat (first | with_reducible exact In.head | apply In.tail))).1
    have l2 := (sl_len h (xs := i.node.sh) (a := a2) (n := n2) (c := c2) (by repeat (first | with_reducible exact In.head | apply In.tail))).1
    have l3 := (sl_len h (xs := i.node.a) (a := a3) (n := n3) (c := c3) (by repeat (first | with_reducible exact In.head | apply In.tail))).1
    obtain ⟨hs0, hs1, hs2, hs3⟩ := hsm
    refine ⟨⟨by omega, by omega, by omega, by omega⟩, ?_⟩
    obtain ⟨q, v, cs, q1, q2⟩ := evs_row (d := d) h (xss := cpy l d k) (L := L') (by repeat (first | with_reducible exact In.head | apply In.tail)) (by rw [cpy_len]; omega)
    rw [cpy_get (by omega), hpd] at q1
    injection q1 with q1
    have : q.length = k := by rw [← q1, List.length_take]; omega
    rw [this] at q2
    exact ⟨v, cs, q2⟩
  obtain ⟨⟨g0, g1, g2, g3⟩, v, cs, hL⟩ := hx2
  have hLd : d < L'.length := (List.getElem?_eq_some_iff.1 hL).1
  refine T_skip_next (fun _ => rfl) ?_
  refine T_seq ?_
  refine T_block ?_
  refine T_seq (T_reg rfl ?_)
  refine V_q (q_iaE rfl Tryz.underlying63 ty112 rfl rfl hkm had2) rfl rfl ?_
  refine V_q (q_ldRA rfl ty112 rfl rfl (by repeat (first | with_reducible exact In.head | apply In.tail))) rfl rfl ?_
  refine V_l (l_alloc (cs := [.int .i64 0, .int .i64 0, .slice none 0 0, .int .i64 0, .slice none 0 0, .slice none 0 0, .slice none 0 0, .int .i64 0, .int .i64 0, .string ByteArray.empty, .int .i64 0, .int .i64 0, .int .i64 0]) rfl tz112 rfl) rfl rfl ?_; rintro g7 -
  refine V_n (l_st rfl ty112 rfl rfl rfl rfl rfl (by repeat (first | with_reducible exact Put.head | apply Put.tail)) (by repeat (first | exact PutL.z | apply PutL.s | apply PutL.t))) rfl rfl ?_; rintro ⟨⟩ -
  refine V_next (fun _ => rfl) ?_
  refine T_ghost (fun w h => h.rowOut (L := L') (by repeat (first | with_reducible exact Sel.head | apply Sel.tail)) hL) ?_
  refine T_drawn hmix (.pure 0 <| .pure 1 <| .pure 2 <| .pure 3 <| .pure 4 <| .quiet 5 <| .quiet 6 <| .loud 7 <| .loud 8 <| .loud 9 <| .pure 10 <| .bar 11 <| .fin) (by decide +kernel) ?_
  refine W_p rfl (q_mov rfl rfl) rfl rfl ?_
  refine W_p rfl (q_mov rfl rfl) rfl rfl ?_
  refine W_p rfl (q_mov rfl rfl) rfl rfl ?_
  refine W_p rfl (q_mov rfl rfl) rfl rfl ?_
  refine W_p rfl (q_ia1 rfl Tryz.underlying42 ty63 rfl rfl hin) rfl rfl ?_
  refine W_ld rfl rfl ty63 rfl (by repeat (first | with_reducible exact Sel.head | apply Sel.tail)) (nth_row hL) rfl rfl ?_
  refine W_ldA rfl rfl ty112 rfl (by repeat (first | with_reducible exact Sel.head | apply Sel.tail)) (by repeat (first | exact SubL.z | apply SubL.s | apply SubL.t)) rfl rfl ?_
  refine W_l rfl (l_call rfl ent87 rfl (c_own i a0 a1 a2 a3 n0 c0 n1 c1 n2 c2 n3 c3 g0 g1 g2 g3) (by repeat (first | with_reducible exact Pick.nil | apply Pick.cons (by repeat (first | with_reducible exact Sel.head | apply Sel.tail)))) (by repeat (first | with_reducible exact Ins.nil | refine Ins.cons (by repeat (first | with_reducible exact In.head | apply In.tail)) ?_)) (fun _ => (by repeat (first | with_reducible exact App.nil | apply App.cons))) (fun _ => (by repeat (first | with_reducible exact App.nil | apply App.cons)))) (fun _ _ h => by repeat (first | exact trivial | refine ⟨?_, h.weak (by repeat (first | exact List.Sublist.refl _ | exact List.nil_sublist _ | with_reducible apply List.Sublist.cons_cons | apply List.Sublist.cons)) (by simp +contextual)⟩)) rfl rfl ?_; rintro ⟨⟨b0, d0⟩, ⟨b1, d1⟩, ⟨b2, d2⟩, b3, d3⟩ -
  refine W_l rfl (l_bs [.int .i64 0, .int .i64 0, .slice none 0 0, .int .i64 0, .slice none 0 0, .slice none 0 0, .slice none 0 0, .int .i64 0, .int .i64 0, .string ByteArray.empty, .int .i64 0, .int .i64 0, .int .i64 0] rfl Tryz.underlying63 ty112 tz112 (by decide) rfl rfl rfl (by repeat (first | exact FillL.nil | apply FillL.cons rfl rfl (by repeat (first | exact PutL.z | apply PutL.s | apply PutL.t))))) (fun _ _ h => by repeat (first | exact trivial | refine ⟨?_, h.weak (by repeat (first | exact List.Sublist.refl _ | exact List.nil_sublist _ | with_reducible apply List.Sublist.cons_cons | apply List.Sublist.cons)) (by simp +contextual)⟩)) rfl rfl ?_; rintro g32 -
  refine W_l rfl (l_appBs rfl Tryz.underlying63 ty112 tz112 tb112 rfl (by decide) rfl rfl (by repeat (first | with_reducible exact Sel.head | apply Sel.tail)) (fun _ => (by repeat (first | with_reducible exact Put.head | apply Put.tail))) rfl rfl (by simp [maxLen]; omega) (by first | omega | (simp; omega))) (fun _ _ h => by repeat (first | exact trivial | refine ⟨?_, h.weak (by repeat (first | exact List.Sublist.refl _ | exact List.nil_sublist _ | with_reducible apply List.Sublist.cons_cons | apply List.Sublist.cons)) (by simp +contextual)⟩)) rfl rfl ?_; rintro ⟨ra, rc⟩ -
  refine W_p rfl (q_ia1 rfl Tryz.underlying42 ty63 rfl rfl hin) rfl rfl ?_
  refine W_bn rfl (l_st rfl ty63 rfl rfl rfl rfl rfl (by repeat (first | with_reducible exact Put.head | apply Put.tail)) (putL_set _ d _ (by simp; omega))) rfl rfl ?_; rintro ⟨⟩ -
  refine W_next (fun _ => rfl) ?_
  refine T_ghost (fun w h => h.rowBack (L := L') (i := d) (e := 112) (k := 13) hLd (by repeat (first | with_reducible exact Pick.nil | apply Pick.cons (by repeat (first | with_reducible exact Sel.head | apply Sel.tail))))) ?_
  rw [set_row L' d (.slice ra (k + 1) rc) (k + 1) (cs ++ instC i i.out b0 n0 d0 b1 n1 d1 b2 n2 d2 b3 n3 d3)]
  refine T_reg rfl ?_
  refine V_q (q_addI rfl rfl rfl (by omega)) rfl rfl ?_
  refine V_q (q_mov rfl rfl) rfl rfl ?_
  refine V_nil ?_
  intro w h
  have q1 : EvsP rInst _ w (cpy l d k) L' := h.atom (A := aEvs rInst (cpy l d k) L') (by repeat (first | with_reducible exact In.head | apply In.tail))
  have k1 : EvP rInst _ w ((l.getD d []).take k ++ [i]) _ := (q1.2 d _ _ (cpy_get (by omega)) hL).1.snoc (c1 := instC i i.out b0 n0 d0 b1 n1 d1 b2 n2 d2 b3 n3 d3) ⟨b0, n0, d0, _, rfl, h.atom (A := aSl I i.inn b0 n0 d0) (by repeat (first | with_reducible exact In.head | apply In.tail)), b1, n1, d1, b2, n2, d2, b3, n3, d3, rfl, h.atom (A := aSl I i.node.inn b1 n1 d1) (by repeat (first | with_reducible exact In.head | apply In.tail)), h.atom (A := aSl I i.node.sh b2 n2 d2) (by repeat (first | with_reducible exact In.head | apply In.tail)), h.atom (A := aSl I i.node.a b3 n3 d3) (by repeat (first | with_reducible exact In.head | apply In.tail))⟩
  have q2 := q1.set d (v := .slice ra (k + 1) rc) (n := k + 1) (by rw [hpd]; simp; omega) k1
  rw [cpy_set (by omega) (by rw [hpd]; exact hi)] at q2
  exact ⟨(k + 1, L'.set d (.slice ra (k + 1) rc, k + 1, cs ++ instC i i.out b0 n0 d0 b1 n1 d1 b2 n2 d2 b3 n3 d3)), ⟨by show m - (k + 1) < m - k; omega, by show k + 1 ≤ m; omega⟩, ⟨rfl, rfl, rfl, rfl, rfl, rfl, rfl, rfl, trivial⟩, (h.know (aEvs _ _ _) q2).pick (by repeat (first | with_reducible exact Pick.nil | apply Pick.cons (by repeat (first | with_reducible exact Sel.head | apply Sel.tail)))) (by simp)⟩
end Go.Proofs.YtgbhegmhbeekpaaGreat
