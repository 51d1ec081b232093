/-
  Machines: how they lie.
-/
import Derived.Test.YtgbhegmhbeekpaaGreatZ12
import Derived.Test.YtgbhegmhbeekpaaGreatB9
namespace Go.Proofs.YtgbhegmhbeekpaaGreat
open Go
set_option maxRecDepth 100000
set_option linter.unusedVariables false

structure DA where
  pa : Option Addr
  pn : Nat
  pc : Nat
  ga : Option Addr
  gn : Nat
  gc : Nat
  rr : Nat
  E : List (Int × Value)

abbrev devC (x : Dev) (A : DA) : List Value := [.slice A.pa A.pn A.pc, .int .i64 x.pc, .map (some A.rr), .slice A.ga A.gn A.gc, .int .i64 0]
def devs : List Dev → List DA → List Value
  | x :: l, A :: As => devC x A ++ devs l As
  | _, _ => []

theorem nth_dev : ∀ {l : List Dev} {As : List DA} {d : Nat} {x : Dev} {A : DA} (sp : List Value) (j : Nat), l[d]? = some x → As[d]? = some A → j < 5 → nth (devs l As ++ sp) (d * 5 + j) = nth (devC x A) j
  | [], _, d, _, _, _, _, h, _, _ => by simp at h
  | _ :: _, [], d, _, _, _, _, _, h, _ => by simp at h
  | y :: l, B :: As, 0, x, A, sp, j, h1, h2, hj => by
    simp at h1 h2; subst h1; subst h2
    rw [nth_eq, nth_eq, devs, List.append_assoc, Nat.zero_mul, Nat.zero_add, List.getElem?_append_left (by simp; omega)]
  | y :: l, B :: As, d + 1, x, A, sp, j, h1, h2, hj => by
    have ih := nth_dev (l := l) (As := As) (d := d) sp j (by simpa using h1) (by simpa using h2) hj
    rw [← ih, nth_eq, nth_eq, devs, List.append_assoc, List.getElem?_append_right (by simp; omega)]
    congr 1
    simp; omega
theorem devs_set : ∀ {l : List Dev} {As : List DA} {d : Nat} {x x' : Dev} {A A' : DA} (sp : List Value) (j : Nat) (v : Value), l[d]? = some x → As[d]? = some A → j < 5 → devC x' A' = (devC x A).set j v →
    (devs l As ++ sp).set (d * 5 + j) v = devs (l.set d x') (As.set d A') ++ sp
  | [], _, d, _, _, _, _, _, _, _, h, _, _, _ => by simp at h
  | _ :: _, [], d, _, _, _, _, _, _, _, _, h, _, _ => by simp at h
  | y :: l, B :: As, 0, x, x', A, A', sp, j, v, h1, h2, hj, he => by
    simp only [List.getElem?_cons_zero, Option.some.injEq] at h1 h2; subst h1; subst h2
    rw [List.set_cons_zero, List.set_cons_zero, devs, devs, he, Nat.zero_mul, Nat.zero_add, List.append_assoc, List.set_append_left _ _ (by simp; omega), List.append_assoc]
  | y :: l, B :: As, d + 1, x, x', A, A', sp, j, v, h1, h2, hj, he => by
    have ih := devs_set (l := l) (As := As) (d := d) sp j v (by simpa using h1) (by simpa using h2) hj he
    rw [List.set_cons_succ, List.set_cons_succ, devs, devs, List.append_assoc, List.append_assoc, ← ih, List.set_append_right _ _ (by simp; omega)]
    congr 2
    simp; omega
theorem devs_len : ∀ {l : List Dev} {As : List DA}, As.length = l.length → (devs l As).length = l.length * 5
  | [], [], _ => rfl
  | [], _ :: _, h => by simp at h
  | _ :: _, [], h => by simp at h
  | x :: l, A :: As, h => by
    rw [devs, List.length_append, devs_len (by simpa using h)]
    simp; omega
theorem put_dev {l : List Dev} {As : List DA} {d : Nat} {x x' : Dev} {A A' : DA} {sp : List Value} (j : Nat) (v : Value) (h1 : l[d]? = some x) (h2 : As[d]? = some A) (hj : j < 5) (he : devC x' A' = (devC x A).set j v) :
    PutL (devs l As ++ sp) (d * 5 + j) [v] (devs (l.set d x') (As.set d A') ++ sp) := by
  rw [← devs_set sp j v h1 h2 hj he]
  refine putL_set _ _ _ ?_
  have h3 := nth_dev sp j h1 h2 hj
  rw [nth_eq, nth_eq] at h3
  have : (devC x A)[j]? = some ((devC x A)[j]'(by simp; omega)) := List.getElem?_eq_getElem _
  rw [this] at h3
  exact (List.getElem?_eq_some_iff.1 h3).1

def DevsP (M : List Nat) (w : World) (l : List Dev) (As : List DA) : Prop :=
  As.length = l.length ∧ ∀ (d : Nat) (x : Dev) (A : DA), l[d]? = some x → As[d]? = some A → SlP rInst M w x.p A.pa A.pn A.pc ∧ SlP rTn M w x.given A.ga A.gn A.gc ∧ Mp rTn M w x.regs A.E
def aDevs (l : List Dev) (As : List DA) : Atom :=
  ⟨fun M w => DevsP M w l As, fun h k hM => ⟨h.1, fun d x A h1 h2 => ⟨(h.2 d x A h1 h2).1.mov k hM, (h.2 d x A h1 h2).2.1.mov k hM, (h.2 d x A h1 h2).2.2.mov k hM⟩⟩⟩
theorem DevsP.set {M : List Nat} {w : World} {l : List Dev} {As : List DA} (h : DevsP M w l As) (d : Nat) {x : Dev} {A : DA} (h1 : SlP rInst M w x.p A.pa A.pn A.pc) (h2 : SlP rTn M w x.given A.ga A.gn A.gc) (h3 : Mp rTn M w x.regs A.E) : DevsP M w (l.set d x) (As.set d A) := by
  refine ⟨by simp [h.1], fun e y B e1 e2 => ?_⟩
  rw [List.getElem?_set] at e1 e2
  by_cases hde : d = e
  · subst hde
    rw [if_pos rfl] at e1 e2
    split at e1
    · rename_i hl
      rw [if_pos (by rw [h.1]; exact hl)] at e2
      injection e1 with e1; injection e2 with e2
      subst e1; subst e2
      exact ⟨h1, h2, h3⟩
    · cases e1
  · rw [if_neg hde] at e1 e2
    exact h.2 e y B e1 e2

/-- where a machine lies -/
structure MacA where
  g : Nat
  gl : Nat
  gb : Nat
  rb : Nat
  c : Nat
  sp : List Value
  As : List DA
  EB : List (Key3 × Value)
abbrev macO (n : Nat) (m : Mac) (y : MacA) : List Res :=
  [rBlk y.g 104 [.slice (some ⟨y.gl, 0, none⟩) n y.c, .pointer (some ⟨y.gb, 0, none⟩), .int .i64 m.sent], rBlk y.gl 108 (devs m.l y.As ++ y.sp),
   rBlk y.gb 137 [.map (some y.rb)], rMap κ3 y.rb y.EB, rAll (y.As.map fun A => rMap kI A.rr A.E)]
abbrev macF (m : Mac) (y : MacA) : List Atom := [aMp rTn m.bag y.EB, aDevs m.l y.As]

section
variable {P : Program} {nn : Nat} {l : LEnv} {C : Ctx} {own : List Res} {ats : List Atom} {Q : Exit → LEnv → World → Prop}
/-- a device -/
theorem T_dev {cd : Code} {L : List Dev} {As : List DA} (d : Nat) (hs : In (aDevs L As) ats) (hd : d < L.length)
    (h : ∀ x A, L[d]? = some x → As[d]? = some A → T P nn cd l C own (aSl rInst x.p A.pa A.pn A.pc :: aSl rTn x.given A.ga A.gn A.gc :: aMp rTn x.regs A.E :: ats) Q) : T P nn cd l C own ats Q := by
  intro w hw
  have h0 : DevsP _ w L As := hw.atom hs
  have hA : d < As.length := by rw [h0.1]; exact hd
  obtain ⟨h1, h2, h3⟩ := h0.2 d _ _ (List.getElem?_eq_getElem hd) (List.getElem?_eq_getElem hA)
  exact h _ _ (List.getElem?_eq_getElem hd) (List.getElem?_eq_getElem hA) w (((hw.know (aMp rTn _ _) h3).know (aSl rTn _ _ _ _) h2).know (aSl rInst _ _ _ _) h1)
end

section
variable {l : List Dev} {As : List DA} {d : Nat} {x : Dev} {A : DA} {sp : List Value}
theorem nd0_ (h1 : l[d]? = some x) (h2 : As[d]? = some A) : nth (devs l As ++ sp) (d * 5 + 0) = some (.slice A.pa A.pn A.pc) := nth_dev sp 0 h1 h2 (by decide)
theorem nd1_ (h1 : l[d]? = some x) (h2 : As[d]? = some A) : nth (devs l As ++ sp) (d * 5 + 1) = some (.int .i64 x.pc) := nth_dev sp 1 h1 h2 (by decide)
theorem nd2_ (h1 : l[d]? = some x) (h2 : As[d]? = some A) : nth (devs l As ++ sp) (d * 5 + 2) = some (.map (some A.rr)) := nth_dev sp 2 h1 h2 (by decide)
theorem nd3_ (h1 : l[d]? = some x) (h2 : As[d]? = some A) : nth (devs l As ++ sp) (d * 5 + 3) = some (.slice A.ga A.gn A.gc) := nth_dev sp 3 h1 h2 (by decide)
theorem nd4_ (h1 : l[d]? = some x) (h2 : As[d]? = some A) : nth (devs l As ++ sp) (d * 5 + 4) = some (.int .i64 0) := nth_dev sp 4 h1 h2 (by decide)
end
theorem subL_of : ∀ (l vs r : List Value), SubL (vs ++ r) 0 vs.length vs
  | _, [], r => .z
  | l, v :: vs, r => .s (subL_of l vs r)
theorem subL_skip : ∀ (p : List Value) {r vs : List Value} {k : Nat}, SubL r 0 k vs → SubL (p ++ r) p.length k vs
  | [], _, _, _, h => h
  | _ :: p, _, _, _, h => .t (subL_skip p h)
theorem subL_dev : ∀ {l : List Dev} {As : List DA} {d : Nat} {x : Dev} {A : DA} {sp : List Value}, l[d]? = some x → As[d]? = some A → SubL (devs l As ++ sp) (d * 5) 5 (devC x A)
  | [], _, d, _, _, _, h, _ => by simp at h
  | _ :: _, [], d, _, _, _, _, h => by simp at h
  | y :: l, B :: As, 0, x, A, sp, h1, h2 => by
    simp only [List.getElem?_cons_zero, Option.some.injEq] at h1 h2; subst h1; subst h2
    rw [devs, List.append_assoc]
    exact subL_of [] (devC y B) _
  | y :: l, B :: As, d + 1, x, A, sp, h1, h2 => by
    have ih := subL_dev (l := l) (As := As) (d := d) (sp := sp) (by simpa using h1) (by simpa using h2)
    rw [devs, List.append_assoc, Nat.add_mul, Nat.add_comm (d * 5)]
    have h5 : ∀ {k off : Nat} {r vs : List Value} (p : List Value), SubL r off k vs → SubL (p ++ r) (p.length + off) k vs := by
      intro k off r vs p h
      induction p with
      | nil => simpa using h
      | cons z p ih => rw [List.cons_append, List.length_cons, Nat.add_right_comm]; exact .t ih
    exact h5 (devC y B) ih
theorem dev_of {m : Mac} {d : Nat} {x : Dev} (h : m.l[d]? = some x) : m.dev d = x := by unfold Mac.dev; rw [List.getD_eq_getElem?_getD, h]; rfl
theorem canM_out {m : Mac} {d : Nat} (h : m.l.length ≤ d) : canM m d = false := by
  have e : m.dev d = Dev0 := by unfold Mac.dev; rw [List.getD_eq_getElem?_getD, List.getElem?_eq_none h]; rfl
  unfold canM nextI; rw [e]; rfl
theorem canZ_nat (m : Mac) (d : Nat) : canZ m (d : Int) = canM m d := by unfold canZ; simp
theorem next_of {m : Mac} {d : Nat} {x : Dev} (h : m.l[d]? = some x) : nextI m d = x.p[x.pc]? := by unfold nextI; rw [dev_of h]

theorem c_there (g n c : Nat) (gl : Option Addr) (d : Int) (u v : Value) : Con Tryz.prog 66 #[.pointer (some ⟨g, 0, none⟩), .int .i64 d] [rBlk g 104 [.slice gl n c, u, v]] []
    (fun _ : Unit => True) (fun _ => .bool (decide (0 ≤ d ∧ d < n))) (fun _ => [rBlk g 104 [.slice gl n c, u, v]]) (fun _ => []) := by
  refine con_of (n := 16) Tryz.func66 rfl rfl rfl (by simp) ?_
  intro C hC
  refine T_seq (T_reg rfl ?_)
  refine V_q (q_asg rfl rfl) rfl rfl ?_
  refine V_next (fun _ => rfl) ?_
  by_cases h0 : 0 ≤ d
  · refine T_seq (T_reg rfl ?_)
    refine V_q (q_mov rfl rfl) rfl rfl ?_
    refine V_q (q_ge rfl rfl rfl) rfl rfl ?_
    rw [decide_eq_true h0]
    refine V_q (q_mov rfl rfl) rfl rfl ?_
    refine V_want (q_mov rfl rfl) rfl rfl ?_
    refine V_want (q_mov rfl rfl) rfl rfl ?_
    refine V_want (q_nil rfl rfl) rfl rfl ?_
    refine V_want (q_fa rfl fd104_0 rfl) rfl rfl ?_
    refine V_want (q_ld rfl ty102 rfl (by repeat (first | with_reducible exact Sel.head | apply Sel.tail)) rfl) rfl rfl ?_
    refine V_want (q_len rfl Tryz.underlying102 rfl) rfl rfl ?_
    refine V_want (q_lt rfl rfl rfl) rfl rfl ?_
    refine V_q (q_pick rfl rfl rfl rfl) rfl rfl ?_
    refine V_q (q_asg rfl rfl) rfl rfl ?_
    refine V_next (fun _ => rfl) ?_
    exact T_ret fun w h => ⟨_, res_1 rfl, (), trivial, by simp [h0], h.weak (List.Sublist.refl _) (by simp)⟩
  · refine T_seq (T_reg rfl ?_)
    refine V_q (q_mov rfl rfl) rfl rfl ?_
    refine V_q (q_ge rfl rfl rfl) rfl rfl ?_
    rw [decide_eq_false h0]
    refine V_q (q_mov rfl rfl) rfl rfl ?_
    refine V_skip rfl rfl ?_
    refine V_skip rfl rfl ?_
    refine V_skip rfl rfl ?_
    refine V_skip rfl rfl ?_
    refine V_skip rfl rfl ?_
    refine V_skip rfl rfl ?_
    refine V_skip rfl rfl ?_
    refine V_q (q_pick rfl rfl rfl rfl) rfl rfl ?_
    refine V_q (q_asg rfl rfl) rfl rfl ?_
    refine V_next (fun _ => rfl) ?_
    exact T_ret fun w h => ⟨_, res_1 rfl, (), trivial, by simp [h0], h.weak (List.Sublist.refl _) (by simp)⟩
theorem c_waits {n : Nat} (m : Mac) (y : MacA) (hn : m.l.length = n) (d : Int) : Con Tryz.prog 63 #[.pointer (some ⟨y.g, 0, none⟩), .int .i64 d] (macO n m y) (macF m y)
    (fun _ : Unit => True) (fun _ => .bool (!canZ m d)) (fun _ => macO n m y) (fun _ => []) := by
  refine con_of (n := 63) Tryz.func63 rfl rfl rfl (by simp) ?_
  intro C hC
  have ct := c_there y.g n y.c (some ⟨y.gl, 0, none⟩) d (.pointer (some ⟨y.gb, 0, none⟩)) (.int .i64 m.sent)
  by_cases hd : 0 ≤ d ∧ d < n
  rotate_left
  · rw [decide_eq_false hd] at ct
    refine T_seq (T_reg rfl ?_)
    refine V_q (q_asg rfl rfl) rfl rfl ?_
    refine V_next (fun _ => rfl) ?_
    refine T_seq ?_
    refine T_seq (T_drawn hmix (.pure 0 <| .pure 1 <| .bar 2 <| .pure 3 <| .pure 4 <| .pure 5 <| .pure 6 <| .pure 7 <| .quiet 8 <| .pure 9 <| .pure 10 <| .pure 11 <| .quiet 12 <| .pure 13 <| .pure 14 <| .pure 15 <| .quiet 16 <| .pure 17 <| .pure 18 <| .pure 19 <| .quiet 20 <| .pure 21 <| .pure 22 <| .pure 23 <| .fin) (by decide +kernel) ?_)
    refine W_p rfl (q_mov rfl rfl) rfl rfl ?_
    refine W_p rfl (q_mov rfl rfl) rfl rfl ?_
    refine W_b rfl (l_call rfl ent66 rfl (ct) (by repeat (first | with_reducible exact Pick.nil | apply Pick.cons (by repeat (first | with_reducible exact Sel.head | apply Sel.tail)))) (by repeat (first | with_reducible exact Ins.nil | refine Ins.cons (by repeat (first | with_reducible exact In.head | apply In.tail)) ?_)) (fun _ => (by repeat (first | with_reducible exact App.nil | apply App.cons))) (fun _ => (by repeat (first | with_reducible exact App.nil | apply App.cons)))) rfl rfl ?_; rintro g9 -
    refine W_p rfl (q_not rfl rfl) rfl rfl ?_
    refine W_p rfl (q_mov rfl rfl) rfl rfl ?_
    refine W_pskip rfl rfl rfl ?_
    refine W_pskip rfl rfl rfl ?_
    refine W_pskip rfl rfl rfl ?_
    refine W_quietskip rfl rfl rfl ?_
    refine W_pskip rfl rfl rfl ?_
    refine W_pskip rfl rfl rfl ?_
    refine W_pskip rfl rfl rfl ?_
    refine W_quietskip rfl rfl rfl ?_
    refine W_pskip rfl rfl rfl ?_
    refine W_pskip rfl rfl rfl ?_
    refine W_pskip rfl rfl rfl ?_
    refine W_quietskip rfl rfl rfl ?_
    refine W_pskip rfl rfl rfl ?_
    refine W_pskip rfl rfl rfl ?_
    refine W_pskip rfl rfl rfl ?_
    refine W_quietskip rfl rfl rfl ?_
    refine W_pskip rfl rfl rfl ?_
    refine W_pskip rfl rfl rfl ?_
    refine W_p rfl (q_pick rfl rfl rfl rfl) rfl rfl ?_
    refine W_next (fun _ => rfl) ?_
    refine T_cond rfl (fun hb => ?_) (fun hb => ?_)
    · refine T_seq (T_reg rfl ?_)
      refine V_q (q_asg rfl rfl) rfl rfl ?_
      refine V_next (fun _ => rfl) ?_
      refine T_ret fun w h => ⟨_, res_1 rfl, (), trivial, ?_, h.pick (by repeat (first | with_reducible exact Pick.nil | apply Pick.cons (by repeat (first | with_reducible exact Sel.head | apply Sel.tail)))) (by simp)⟩
      have : canZ m d = false := by
        unfold canZ
        by_cases h0 : 0 ≤ d
        · rw [canM_out (by omega)]; simp
        · simp [h0]
      rw [this]; rfl
    · cases hb
  rw [decide_eq_true hd] at ct
  obtain ⟨e, he⟩ : ∃ e : Nat, d = e := ⟨d.toNat, by omega⟩
  subst he
  have hen : e < n := by omega
  refine T_dev e (L := m.l) (As := y.As) (by repeat (first | with_reducible exact In.head | apply In.tail)) (by omega) fun x A hx hA => ?_
  refine T_pure (φ := A.pn = x.p.length) (fun w h => (sl_len h (xs := x.p) (a := A.pa) (n := A.pn) (c := A.pc) (by repeat (first | with_reducible exact In.head | apply In.tail))).1) (fun hpn => ?_)
  refine T_seq (T_reg rfl ?_)
  refine V_q (q_asg rfl rfl) rfl rfl ?_
  refine V_next (fun _ => rfl) ?_
  refine T_seq ?_
  refine T_seq (T_drawn hmix (.pure 0 <| .pure 1 <| .bar 2 <| .pure 3 <| .pure 4 <| .pure 5 <| .pure 6 <| .pure 7 <| .quiet 8 <| .pure 9 <| .pure 10 <| .pure 11 <| .quiet 12 <| .pure 13 <| .pure 14 <| .pure 15 <| .quiet 16 <| .pure 17 <| .pure 18 <| .pure 19 <| .quiet 20 <| .pure 21 <| .pure 22 <| .pure 23 <| .fin) (by decide +kernel) ?_)
  refine W_p rfl (q_mov rfl rfl) rfl rfl ?_
  refine W_p rfl (q_mov rfl rfl) rfl rfl ?_
  refine W_b rfl (l_call rfl ent66 rfl (ct) (by repeat (first | with_reducible exact Pick.nil | apply Pick.cons (by repeat (first | with_reducible exact Sel.head | apply Sel.tail)))) (by repeat (first | with_reducible exact Ins.nil | refine Ins.cons (by repeat (first | with_reducible exact In.head | apply In.tail)) ?_)) (fun _ => (by repeat (first | with_reducible exact App.nil | apply App.cons))) (fun _ => (by repeat (first | with_reducible exact App.nil | apply App.cons)))) rfl rfl ?_; rintro g9 -
  refine W_p rfl (q_not rfl rfl) rfl rfl ?_
  refine W_p rfl (q_mov rfl rfl) rfl rfl ?_
  refine W_p rfl (q_mov rfl rfl) rfl rfl ?_
  refine W_p rfl (q_nil rfl rfl) rfl rfl ?_
  refine W_p rfl (q_fa rfl fd104_0 rfl) rfl rfl ?_
  refine W_ld rfl rfl ty102 rfl (by repeat (first | with_reducible exact Sel.head | apply Sel.tail)) rfl rfl rfl ?_
  refine W_p rfl (q_mov rfl rfl) rfl rfl ?_
  refine W_p rfl (q_iaD rfl Tryz.underlying102 ty108 rfl rfl hen) rfl rfl ?_
  refine W_p rfl (q_faR rfl fd108_1 rfl) rfl rfl ?_
  refine W_ld rfl rfl ty3 rfl (by repeat (first | with_reducible exact Sel.head | apply Sel.tail)) (nd1_ hx hA) rfl rfl ?_
  refine W_p rfl (q_mov rfl rfl) rfl rfl ?_
  refine W_p rfl (q_nil rfl rfl) rfl rfl ?_
  refine W_p rfl (q_fa rfl fd104_0 rfl) rfl rfl ?_
  refine W_ld rfl rfl ty102 rfl (by repeat (first | with_reducible exact Sel.head | apply Sel.tail)) rfl rfl rfl ?_
  refine W_p rfl (q_mov rfl rfl) rfl rfl ?_
  refine W_p rfl (q_iaD rfl Tryz.underlying102 ty108 rfl rfl hen) rfl rfl ?_
  refine W_p rfl (q_faR rfl fd108_0 rfl) rfl rfl ?_
  refine W_ld rfl rfl ty63 rfl (by repeat (first | with_reducible exact Sel.head | apply Sel.tail)) (nd0_ hx hA) rfl rfl ?_
  refine W_p rfl (q_len rfl Tryz.underlying63 rfl) rfl rfl ?_
  refine W_p rfl (q_ge rfl rfl rfl) rfl rfl ?_
  refine W_p rfl (q_pick rfl rfl rfl rfl) rfl rfl ?_
  refine W_next (fun _ => rfl) ?_
  by_cases hpc : x.pc < x.p.length
  rotate_left
  · rw [decide_eq_true (show (A.pn : Int) ≤ x.pc by omega)]
    refine T_cond rfl (fun hb => ?_) (fun hb => ?_)
    · refine T_seq (T_reg rfl ?_)
      refine V_q (q_asg rfl rfl) rfl rfl ?_
      refine V_next (fun _ => rfl) ?_
      refine T_ret fun w h => ⟨_, res_1 rfl, (), trivial, ?_, h.pick (by repeat (first | with_reducible exact Pick.nil | apply Pick.cons (by repeat (first | with_reducible exact Sel.head | apply Sel.tail)))) (by simp)⟩
      have : canM m e = false := by
        unfold canM
        rw [next_of hx, List.getElem?_eq_none (by omega)]
      rw [canZ_nat, this]; rfl
    · cases hb
  rw [decide_eq_false (show ¬ (A.pn : Int) ≤ x.pc by omega)]
  refine T_cond rfl (fun hb => ?_) (fun hb => ?_)
  · cases hb
  refine T_skip_next (fun _ => rfl) ?_
  refine T_inst x.pc (xs := x.p) (a := A.pa) (by repeat (first | with_reducible exact In.head | apply In.tail)) (by omega) fun i ad a0 n0 c0 a1 n1 c1 a2 n2 c2 a3 n3 c3 hi had => ?_
  have hcan : canM m e = (!decide (i.kind = 4) || (lkE m.bag (i.dev, (e : Int), i.tag)).isSome) := by
    unfold canM
    rw [next_of hx, hi]
  rw [canZ_nat, hcan]
  refine T_seq (T_reg rfl ?_)
  refine V_q (q_mov rfl rfl) rfl rfl ?_
  refine V_q (q_nil rfl rfl) rfl rfl ?_
  refine V_q (q_fa rfl fd104_0 rfl) rfl rfl ?_
  refine V_q (q_ld rfl ty102 rfl (by repeat (first | with_reducible exact Sel.head | apply Sel.tail)) rfl) rfl rfl ?_
  refine V_q (q_mov rfl rfl) rfl rfl ?_
  refine V_q (q_iaD rfl Tryz.underlying102 ty108 rfl rfl hen) rfl rfl ?_
  refine V_q (q_asg rfl rfl) rfl rfl ?_
  refine V_next (fun _ => rfl) ?_
  refine T_seq (T_drawn hmix (.pure 0 <| .pure 1 <| .pure 2 <| .quiet 3 <| .pure 4 <| .pure 5 <| .pure 6 <| .quiet 7 <| .pure 8 <| .quiet 9 <| .loud 10 <| .bar 11 <| .fin) (by decide +kernel) ?_)
  refine W_p rfl (q_mov rfl rfl) rfl rfl ?_
  refine W_p rfl (q_nil rfl rfl) rfl rfl ?_
  refine W_p rfl (q_faR rfl fd108_0 rfl) rfl rfl ?_
  refine W_ld rfl rfl ty63 rfl (by repeat (first | with_reducible exact Sel.head | apply Sel.tail)) (nd0_ hx hA) rfl rfl ?_
  refine W_p rfl (q_mov rfl rfl) rfl rfl ?_
  refine W_p rfl (q_nil rfl rfl) rfl rfl ?_
  refine W_p rfl (q_faR rfl fd108_1 rfl) rfl rfl ?_
  refine W_ld rfl rfl ty3 rfl (by repeat (first | with_reducible exact Sel.head | apply Sel.tail)) (nd1_ hx hA) rfl rfl ?_
  refine W_p rfl (q_iaE rfl Tryz.underlying63 ty112 rfl rfl (by omega) had) rfl rfl ?_
  refine W_a rfl (q_ldRA rfl ty112 rfl rfl (by repeat (first | with_reducible exact In.head | apply In.tail))) rfl rfl ?_
  refine W_l rfl (l_alloc (cs := [.int .i64 0, .int .i64 0, .slice none 0 0, .int .i64 0, .slice none 0 0, .slice none 0 0, .slice none 0 0, .int .i64 0, .int .i64 0, .string ByteArray.empty, .int .i64 0, .int .i64 0, .int .i64 0]) rfl tz112 rfl) (fun _ _ h => by repeat (first | exact trivial | refine ⟨?_, h.weak (by repeat (first | exact List.Sublist.refl _ | exact List.nil_sublist _ | with_reducible apply List.Sublist.cons_cons | apply List.Sublist.cons)) (by simp +contextual)⟩)) rfl rfl ?_; rintro g6 -
  refine W_bn rfl (l_st rfl ty112 rfl rfl rfl rfl rfl (by repeat (first | with_reducible exact Put.head | apply Put.tail)) (by repeat (first | exact PutL.z | apply PutL.s | apply PutL.t))) rfl rfl ?_; rintro ⟨⟩ -
  refine W_next (fun _ => rfl) ?_
  by_cases hk : i.kind = 4
  · refine T_seq (T_drawn hmix (.pure 0 <| .quiet 1 <| .pure 2 <| .pure 3 <| .pure 4 <| .pure 5 <| .pure 6 <| .quiet 7 <| .pure 8 <| .quiet 9 <| .pure 10 <| .pure 11 <| .quiet 12 <| .loud 13 <| .pure 14 <| .pure 15 <| .pure 16 <| .fin) (by decide +kernel) ?_)
    refine W_p rfl (q_fa rfl fd112_0 rfl) rfl rfl ?_
    refine W_ld rfl rfl ty3 rfl (by repeat (first | with_reducible exact Sel.head | apply Sel.tail)) rfl rfl rfl ?_
    refine W_p rfl (q_eq rfl rfl rfl) rfl rfl ?_
    rw [decide_eq_true hk]
    refine W_p rfl (q_mov rfl rfl) rfl rfl ?_
    refine W_p rfl (q_mov rfl rfl) rfl rfl ?_
    refine W_p rfl (q_nil rfl rfl) rfl rfl ?_
    refine W_p rfl (q_fa rfl fd104_1 rfl) rfl rfl ?_
    refine W_ld rfl rfl ty100 rfl (by repeat (first | with_reducible exact Sel.head | apply Sel.tail)) rfl rfl rfl ?_
    refine W_p rfl (q_fa rfl fd112_5 rfl) rfl rfl ?_
    refine W_ld rfl rfl ty3 rfl (by repeat (first | with_reducible exact Sel.head | apply Sel.tail)) rfl rfl rfl ?_
    refine W_p rfl (q_mov rfl rfl) rfl rfl ?_
    refine W_p rfl (q_fa rfl fd112_6 rfl) rfl rfl ?_
    refine W_ld rfl rfl ty3 rfl (by repeat (first | with_reducible exact Sel.head | apply Sel.tail)) rfl rfl rfl ?_
    refine W_l rfl (l_call rfl ent93 rfl (c_Has y.gb y.rb m.bag y.EB i.dev e i.tag) (by repeat (first | with_reducible exact Pick.nil | apply Pick.cons (by repeat (first | with_reducible exact Sel.head | apply Sel.tail)))) (by repeat (first | with_reducible exact Ins.nil | refine Ins.cons (by repeat (first | with_reducible exact In.head | apply In.tail)) ?_)) (fun _ => (by repeat (first | with_reducible exact App.nil | apply App.cons))) (fun _ => (by repeat (first | with_reducible exact App.nil | apply App.cons)))) (fun _ _ h => by repeat (first | exact trivial | refine ⟨?_, h.weak (by repeat (first | exact List.Sublist.refl _ | exact List.nil_sublist _ | with_reducible apply List.Sublist.cons_cons | apply List.Sublist.cons)) (by simp +contextual)⟩)) rfl rfl ?_; rintro g60 -
    refine W_p rfl (q_not rfl rfl) rfl rfl ?_
    refine W_p rfl (q_pick rfl rfl rfl rfl) rfl rfl ?_
    refine W_p rfl (q_asg rfl rfl) rfl rfl ?_
    refine W_next (fun _ => rfl) ?_
    exact T_ret fun w h => ⟨_, res_1 rfl, (), trivial, by simp, h.pick (by repeat (first | with_reducible exact Pick.nil | apply Pick.cons (by repeat (first | with_reducible exact Sel.head | apply Sel.tail)))) (by simp)⟩
  · refine T_seq (T_drawn hmix (.pure 0 <| .quiet 1 <| .pure 2 <| .pure 3 <| .pure 4 <| .pure 5 <| .pure 6 <| .quiet 7 <| .pure 8 <| .quiet 9 <| .pure 10 <| .pure 11 <| .quiet 12 <| .loud 13 <| .pure 14 <| .pure 15 <| .pure 16 <| .fin) (by decide +kernel) ?_)
    refine W_p rfl (q_fa rfl fd112_0 rfl) rfl rfl ?_
    refine W_ld rfl rfl ty3 rfl (by repeat (first | with_reducible exact Sel.head | apply Sel.tail)) rfl rfl rfl ?_
    refine W_p rfl (q_eq rfl rfl rfl) rfl rfl ?_
    rw [decide_eq_false hk]
    refine W_p rfl (q_mov rfl rfl) rfl rfl ?_
    refine W_pskip rfl rfl rfl ?_
    refine W_pskip rfl rfl rfl ?_
    refine W_pskip rfl rfl rfl ?_
    refine W_quietskip rfl rfl rfl ?_
    refine W_pskip rfl rfl rfl ?_
    refine W_quietskip rfl rfl rfl ?_
    refine W_pskip rfl rfl rfl ?_
    refine W_pskip rfl rfl rfl ?_
    refine W_quietskip rfl rfl rfl ?_
    refine W_loudskip rfl rfl rfl ?_
    refine W_pskip rfl rfl rfl ?_
    refine W_p rfl (q_pick rfl rfl rfl rfl) rfl rfl ?_
    refine W_p rfl (q_asg rfl rfl) rfl rfl ?_
    refine W_next (fun _ => rfl) ?_
    exact T_ret fun w h => ⟨_, res_1 rfl, (), trivial, by simp, h.pick (by repeat (first | with_reducible exact Pick.nil | apply Pick.cons (by repeat (first | with_reducible exact Sel.head | apply Sel.tail)))) (by simp)⟩

theorem c_Can {n : Nat} (m : Mac) (y : MacA) (hn : m.l.length = n) (d : Int) : Con Tryz.prog 31 #[.pointer (some ⟨y.g, 0, none⟩), .int .i64 d] (macO n m y) (macF m y)
    (fun _ : Unit => True) (fun _ => .bool (canZ m d)) (fun _ => macO n m y) (fun _ => []) := by
  refine con_of (n := 9) Tryz.func31 rfl rfl rfl (by simp) ?_
  intro C hC
  refine T_seq (T_reg rfl ?_)
  refine V_q (q_asg rfl rfl) rfl rfl ?_
  refine V_next (fun _ => rfl) ?_
  refine T_seq (T_reg rfl ?_)
  refine V_q (q_mov rfl rfl) rfl rfl ?_
  refine V_q (q_mov rfl rfl) rfl rfl ?_
  refine V_l (l_call rfl ent63 rfl (c_waits m y hn d) (by repeat (first | with_reducible exact Pick.nil | apply Pick.cons (by repeat (first | with_reducible exact Sel.head | apply Sel.tail)))) (by repeat (first | with_reducible exact Ins.nil | refine Ins.cons (by repeat (first | with_reducible exact In.head | apply In.tail)) ?_)) (fun _ => (by repeat (first | with_reducible exact App.nil | apply App.cons))) (fun _ => (by repeat (first | with_reducible exact App.nil | apply App.cons)))) rfl rfl ?_; rintro g7 -
  refine V_q (q_not rfl rfl) rfl rfl ?_
  refine V_q (q_asg rfl rfl) rfl rfl ?_
  refine V_next (fun _ => rfl) ?_
  exact T_ret fun w h => ⟨_, res_1 rfl, (), trivial, by simp, h.pick (by repeat (first | with_reducible exact Pick.nil | apply Pick.cons (by repeat (first | with_reducible exact Sel.head | apply Sel.tail)))) (by simp)⟩

def atZ (m : Mac) (d : Int) : Int := if 0 ≤ d ∧ d < m.l.length then ((m.dev d.toNat).pc : Int) else -1
theorem c_At {n : Nat} (m : Mac) (y : MacA) (hn : m.l.length = n) (d : Int) : Con Tryz.prog 40 #[.pointer (some ⟨y.g, 0, none⟩), .int .i64 d] (macO n m y) (macF m y)
    (fun _ : Unit => True) (fun _ => .int .i64 (atZ m d)) (fun _ => macO n m y) (fun _ => []) := by
  refine con_of (n := 17) Tryz.func40 rfl rfl rfl (by simp) ?_
  intro C hC
  have ct := c_there y.g n y.c (some ⟨y.gl, 0, none⟩) d (.pointer (some ⟨y.gb, 0, none⟩)) (.int .i64 m.sent)
  by_cases hd : 0 ≤ d ∧ d < n
  rotate_left
  · rw [decide_eq_false hd] at ct
    refine T_seq (T_reg rfl ?_)
    refine V_q (q_asg rfl rfl) rfl rfl ?_
    refine V_next (fun _ => rfl) ?_
    refine T_seq ?_
    refine T_seq (T_reg rfl ?_)
    refine V_q (q_mov rfl rfl) rfl rfl ?_
    refine V_q (q_mov rfl rfl) rfl rfl ?_
    refine V_l (l_call rfl ent66 rfl (ct) (by repeat (first | with_reducible exact Pick.nil | apply Pick.cons (by repeat (first | with_reducible exact Sel.head | apply Sel.tail)))) (by repeat (first | with_reducible exact Ins.nil | refine Ins.cons (by repeat (first | with_reducible exact In.head | apply In.tail)) ?_)) (fun _ => (by repeat (first | with_reducible exact App.nil | apply App.cons))) (fun _ => (by repeat (first | with_reducible exact App.nil | apply App.cons)))) rfl rfl ?_; rintro g7 -
    refine V_q (q_not rfl rfl) rfl rfl ?_
    refine V_next (fun _ => rfl) ?_
    refine T_cond rfl (fun hb => ?_) (fun hb => ?_)
    · refine T_seq (T_reg rfl ?_)
      refine V_q (q_asg rfl rfl) rfl rfl ?_
      refine V_next (fun _ => rfl) ?_
      exact T_ret fun w h => ⟨_, res_1 rfl, (), trivial, by unfold atZ; rw [if_neg (by rw [hn]; exact hd)], h.pick (by repeat (first | with_reducible exact Pick.nil | apply Pick.cons (by repeat (first | with_reducible exact Sel.head | apply Sel.tail)))) (by simp)⟩
    · cases hb
  rw [decide_eq_true hd] at ct
  obtain ⟨e, he⟩ : ∃ e : Nat, d = e := ⟨d.toNat, by omega⟩
  subst he
  have hen : e < n := by omega
  refine T_dev e (L := m.l) (As := y.As) (by repeat (first | with_reducible exact In.head | apply In.tail)) (by omega) fun x A hx hA => ?_
  refine T_seq (T_reg rfl ?_)
  refine V_q (q_asg rfl rfl) rfl rfl ?_
  refine V_next (fun _ => rfl) ?_
  refine T_seq ?_
  refine T_seq (T_reg rfl ?_)
  refine V_q (q_mov rfl rfl) rfl rfl ?_
  refine V_q (q_mov rfl rfl) rfl rfl ?_
  refine V_l (l_call rfl ent66 rfl (ct) (by repeat (first | with_reducible exact Pick.nil | apply Pick.cons (by repeat (first | with_reducible exact Sel.head | apply Sel.tail)))) (by repeat (first | with_reducible exact Ins.nil | refine Ins.cons (by repeat (first | with_reducible exact In.head | apply In.tail)) ?_)) (fun _ => (by repeat (first | with_reducible exact App.nil | apply App.cons))) (fun _ => (by repeat (first | with_reducible exact App.nil | apply App.cons)))) rfl rfl ?_; rintro g7 -
  refine V_q (q_not rfl rfl) rfl rfl ?_
  refine V_next (fun _ => rfl) ?_
  refine T_cond rfl (fun hb => ?_) (fun hb => ?_)
  · cases hb
  refine T_skip_next (fun _ => rfl) ?_
  refine T_seq (T_reg rfl ?_)
  refine V_q (q_mov rfl rfl) rfl rfl ?_
  refine V_q (q_nil rfl rfl) rfl rfl ?_
  refine V_q (q_fa rfl fd104_0 rfl) rfl rfl ?_
  refine V_q (q_ld rfl ty102 rfl (by repeat (first | with_reducible exact Sel.head | apply Sel.tail)) rfl) rfl rfl ?_
  refine V_q (q_mov rfl rfl) rfl rfl ?_
  refine V_q (q_iaD rfl Tryz.underlying102 ty108 rfl rfl hen) rfl rfl ?_
  refine V_q (q_faR rfl fd108_1 rfl) rfl rfl ?_
  refine V_q (q_ld rfl ty3 rfl (by repeat (first | with_reducible exact Sel.head | apply Sel.tail)) (nd1_ hx hA)) rfl rfl ?_
  refine V_q (q_asg rfl rfl) rfl rfl ?_
  refine V_next (fun _ => rfl) ?_
  exact T_ret fun w h => ⟨_, res_1 rfl, (), trivial, by unfold atZ; rw [if_pos (by rw [hn]; exact hd), Int.toNat_natCast, dev_of hx], h.pick (by repeat (first | with_reducible exact Pick.nil | apply Pick.cons (by repeat (first | with_reducible exact Sel.head | apply Sel.tail)))) (by simp)⟩

theorem c_Under {n : Nat} (m : Mac) (y : MacA) : Con Tryz.prog 70 #[.pointer (some ⟨y.g, 0, none⟩)] (macO n m y) (macF m y)
    (fun _ : Unit => True) (fun _ => .int .i64 m.bag.length) (fun _ => macO n m y) (fun _ => []) := by
  refine con_of (n := 8) Tryz.func70 rfl rfl rfl (by simp) ?_
  intro C hC
  refine T_seq (T_reg rfl ?_)
  refine V_q (q_asg rfl rfl) rfl rfl ?_
  refine V_next (fun _ => rfl) ?_
  refine T_seq (T_reg rfl ?_)
  refine V_q (q_mov rfl rfl) rfl rfl ?_
  refine V_q (q_nil rfl rfl) rfl rfl ?_
  refine V_q (q_fa rfl fd104_1 rfl) rfl rfl ?_
  refine V_q (q_ld rfl ty100 rfl (by repeat (first | with_reducible exact Sel.head | apply Sel.tail)) rfl) rfl rfl ?_
  refine V_l (l_call rfl ent103 rfl (c_Len y.gb y.rb m.bag y.EB) (by repeat (first | with_reducible exact Pick.nil | apply Pick.cons (by repeat (first | with_reducible exact Sel.head | apply Sel.tail)))) (by repeat (first | with_reducible exact Ins.nil | refine Ins.cons (by repeat (first | with_reducible exact In.head | apply In.tail)) ?_)) (fun _ => (by repeat (first | with_reducible exact App.nil | apply App.cons))) (fun _ => (by repeat (first | with_reducible exact App.nil | apply App.cons)))) rfl rfl ?_; rintro g7 -
  refine V_q (q_asg rfl rfl) rfl rfl ?_
  refine V_next (fun _ => rfl) ?_
  exact T_ret fun w h => ⟨_, res_1 rfl, (), trivial, rfl, h.pick (by repeat (first | with_reducible exact Pick.nil | apply Pick.cons (by repeat (first | with_reducible exact Sel.head | apply Sel.tail)))) (by simp)⟩

theorem c_Sent {n : Nat} (m : Mac) (y : MacA) : Con Tryz.prog 37 #[.pointer (some ⟨y.g, 0, none⟩)] (macO n m y) (macF m y)
    (fun _ : Unit => True) (fun _ => .int .i64 m.sent) (fun _ => macO n m y) (fun _ => []) := by
  refine con_of (n := 7) Tryz.func37 rfl rfl rfl (by simp) ?_
  intro C hC
  refine T_seq (T_reg rfl ?_)
  refine V_q (q_asg rfl rfl) rfl rfl ?_
  refine V_next (fun _ => rfl) ?_
  refine T_seq (T_reg rfl ?_)
  refine V_q (q_mov rfl rfl) rfl rfl ?_
  refine V_q (q_nil rfl rfl) rfl rfl ?_
  refine V_q (q_fa rfl fd104_2 rfl) rfl rfl ?_
  refine V_q (q_ld rfl ty3 rfl (by repeat (first | with_reducible exact Sel.head | apply Sel.tail)) rfl) rfl rfl ?_
  refine V_q (q_asg rfl rfl) rfl rfl ?_
  refine V_next (fun _ => rfl) ?_
  exact T_ret fun w h => ⟨_, res_1 rfl, (), trivial, rfl, h.pick (by repeat (first | with_reducible exact Pick.nil | apply Pick.cons (by repeat (first | with_reducible exact Sel.head | apply Sel.tail)))) (by simp)⟩

theorem c_Halted {n : Nat} (m : Mac) (y : MacA) (hn : m.l.length = n) (h8 : n ≤ 8) : Con Tryz.prog 28 #[.pointer (some ⟨y.g, 0, none⟩)] (macO n m y) (macF m y)
    (fun _ : Unit => True) (fun _ => .bool (haltM m)) (fun _ => macO n m y) (fun _ => []) := by
  refine con_of (n := 21) Tryz.func28 rfl rfl rfl (by simp) ?_
  intro C hC
  refine T_seq (T_reg rfl ?_)
  refine V_q (q_asg rfl rfl) rfl rfl ?_
  refine V_next (fun _ => rfl) ?_
  refine T_seq ?_
  refine T_seq (T_reg rfl ?_)
  refine V_q (q_mov rfl rfl) rfl rfl ?_
  refine V_q (q_nil rfl rfl) rfl rfl ?_
  refine V_q (q_fa rfl fd104_0 rfl) rfl rfl ?_
  refine V_q (q_ld rfl ty102 rfl (by repeat (first | with_reducible exact Sel.head | apply Sel.tail)) rfl) rfl rfl ?_
  refine V_q (q_len rfl Tryz.underlying102 rfl) rfl rfl ?_
  refine V_q (q_mov rfl rfl) rfl rfl ?_
  refine V_next (fun _ => rfl) ?_
  refine T_block ?_
  refine T_loop (fun k : Nat => [(8, .slice (some ⟨y.gl, 0, none⟩) n y.c), (9, .int .i64 n), (10, .int .i64 k)]) (fun _ => macO n m y) (fun _ => macF m y) (fun k => k ≤ n ∧ ∀ (j : Nat) (x : Dev), j < k → m.l[j]? = some x → x.p.length ≤ x.pc) (fun k => n - k) 0 ⟨Nat.zero_le _, by intro j x h; omega⟩ ⟨rfl, rfl, rfl, trivial⟩ (fun w h => h) ?_
  rintro k ⟨hk, hall⟩
  refine T_seq (T_reg rfl ?_)
  refine V_q (q_lt rfl rfl rfl) rfl rfl ?_
  refine V_next (fun _ => rfl) ?_
  refine T_seq ?_
  refine T_cond rfl (fun hb => ?_) (fun hb => ?_)
  rotate_left
  · have hie : k = n := by
      have : ¬ (k : Int) < n := by simpa using hb
      omega
    refine T_exit_next (fun _ => rfl) ?_
    refine T_seq (T_reg rfl ?_)
    refine V_q (q_asg rfl rfl) rfl rfl ?_
    refine V_next (fun _ => rfl) ?_
    refine T_ret fun w h => ⟨_, res_1 rfl, (), trivial, ?_, h.pick (by repeat (first | with_reducible exact Pick.nil | apply Pick.cons (by repeat (first | with_reducible exact Sel.head | apply Sel.tail)))) (by simp)⟩
    have : haltM m = true := by
      unfold haltM
      refine List.all_eq_true.2 fun x hx => ?_
      obtain ⟨j, hj, hjx⟩ := List.mem_iff_getElem.1 hx
      have := hall j x (by omega) (by rw [List.getElem?_eq_getElem hj, hjx])
      simpa using this
    rw [this]
  have hin : k < n := by
    have : (k : Int) < n := by simpa using hb
    omega
  clear hb
  refine T_dev k (L := m.l) (As := y.As) (by repeat (first | with_reducible exact In.head | apply In.tail)) (by omega) fun x A hx hA => ?_
  refine T_pure (φ := A.pn = x.p.length) (fun w h => (sl_len h (xs := x.p) (a := A.pa) (n := A.pn) (c := A.pc) (by repeat (first | with_reducible exact In.head | apply In.tail))).1) (fun hpn => ?_)
  refine T_skip_next (fun _ => rfl) ?_
  refine T_seq ?_
  refine T_block ?_
  refine T_seq (T_reg rfl ?_)
  refine V_q (q_iaD rfl Tryz.underlying102 ty108 rfl rfl hin) rfl rfl ?_
  refine V_q (q_ldA (vs := devC x A) rfl ty108 rfl (by repeat (first | with_reducible exact Sel.head | apply Sel.tail)) (subL_dev hx hA)) rfl rfl ?_
  refine V_l (l_alloc (cs := [.slice none 0 0, .int .i64 0, .map none, .slice none 0 0, .int .i64 0]) rfl tz108 rfl) rfl rfl ?_; rintro g4 -
  refine V_n (l_st rfl ty108 rfl rfl rfl rfl rfl (by repeat (first | with_reducible exact Put.head | apply Put.tail)) (by repeat (first | exact PutL.z | apply PutL.s | apply PutL.t))) rfl rfl ?_; rintro ⟨⟩ -
  refine V_next (fun _ => rfl) ?_
  refine T_seq (T_reg rfl ?_)
  refine V_q (q_fa rfl fd108_1 rfl) rfl rfl ?_
  refine V_q (q_ld rfl ty3 rfl (by repeat (first | with_reducible exact Sel.head | apply Sel.tail)) rfl) rfl rfl ?_
  refine V_q (q_fa rfl fd108_0 rfl) rfl rfl ?_
  refine V_q (q_ld rfl ty63 rfl (by repeat (first | with_reducible exact Sel.head | apply Sel.tail)) rfl) rfl rfl ?_
  refine V_q (q_len rfl Tryz.underlying63 rfl) rfl rfl ?_
  refine V_q (q_lt rfl rfl rfl) rfl rfl ?_
  refine V_next (fun _ => rfl) ?_
  refine T_cond rfl (fun hb => ?_) (fun hb => ?_)
  · refine T_seq (T_reg rfl ?_)
    refine V_q (q_asg rfl rfl) rfl rfl ?_
    refine V_next (fun _ => rfl) ?_
    refine T_ret fun w h => ⟨_, res_1 rfl, (), trivial, ?_, h.pick (by repeat (first | with_reducible exact Pick.nil | apply Pick.cons (by repeat (first | with_reducible exact Sel.head | apply Sel.tail)))) (by simp)⟩
    have hlt : (x.pc : Int) < A.pn := by simpa using hb
    have : haltM m = false := by
      cases hh : haltM m with
      | false => rfl
      | true =>
        unfold haltM at hh
        have := List.all_eq_true.1 hh x (List.mem_of_getElem? hx)
        simp at this
        omega
    rw [this]
  · have hle : ¬ (x.pc : Int) < A.pn := by simpa using hb
    refine T_skip_next (fun _ => rfl) ?_
    refine T_reg rfl ?_
    refine V_q (q_addI rfl rfl rfl (by omega)) rfl rfl ?_
    refine V_q (q_mov rfl rfl) rfl rfl ?_
    refine V_nil ?_
    refine fun w h => ⟨k + 1, ⟨by omega, by omega, fun j z hj hz => ?_⟩, ⟨rfl, rfl, rfl, trivial⟩, h.pick (by repeat (first | with_reducible exact Pick.nil | apply Pick.cons (by repeat (first | with_reducible exact Sel.head | apply Sel.tail)))) (by simp)⟩
    by_cases hjk : j = k
    · subst hjk
      rw [hx] at hz; injection hz with hz; subst hz
      omega
    · exact hall j z (by omega) hz
end Go.Proofs.YtgbhegmhbeekpaaGreat
