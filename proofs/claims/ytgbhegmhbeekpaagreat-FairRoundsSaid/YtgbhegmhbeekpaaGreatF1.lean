/-
  The next one that can step.
-/
import Derived.Test.YtgbhegmhbeekpaaGreatZ21
namespace Go.Proofs.YtgbhegmhbeekpaaGreat
open Go
set_option maxRecDepth 100000

def fstN (n : Nat) (after : Int) : Nat := ((after + 1) % (n : Int)).toNat
theorem fst_lt {n : Nat} (h : 1 ≤ n) (a : Int) : fstN n a < n := by
  have h1 := Int.emod_nonneg (a + 1) (show (n : Int) ≠ 0 by omega)
  have h2 := Int.emod_lt_of_pos (a + 1) (show (0 : Int) < n by omega)
  unfold fstN; omega
theorem fst_eq {n : Nat} (h : 1 ≤ n) (a : Int) : ((fstN n a : Nat) : Int) = (a + 1) % (n : Int) := by
  have h1 := Int.emod_nonneg (a + 1) (show (n : Int) ≠ 0 by omega)
  unfold fstN; omega
theorem tmod_emod (a : Int) (n : Nat) (c : Int) : (a.tmod n + c) % (n : Int) = (a + c) % (n : Int) := by
  have h := Int.mul_tdiv_add_tmod a n
  conv => rhs; rw [← h]
  rw [Int.add_assoc, Int.add_comm ((n : Int) * _), Int.add_mul_emod_self_left]
theorem fst1 {n : Nat} (h : 1 ≤ n) (a : Int) : (a.tmod n + n + 1).tmod n = ((fstN n a : Nat) : Int) := by
  have h2 := neg_lt_tmod a (show (0 : Int) < n by omega)
  rw [fst_eq h, Int.tmod_eq_emod_of_nonneg (by omega), Int.add_assoc, tmod_emod, ← Int.add_assoc, Int.add_right_comm]
  simp
theorem fst2 {n : Nat} (h : 1 ≤ n) (a : Int) : ((a + 1).tmod n + n).tmod n = ((fstN n a : Nat) : Int) := by
  have h2 := neg_lt_tmod (a + 1) (show (0 : Int) < n by omega)
  rw [fst_eq h, Int.tmod_eq_emod_of_nonneg (by omega), tmod_emod]
  simp
/-- the first one behind another, round, that can -/
def nextZ (m : Mac) (n : Nat) (a : Int) : Int := match (List.range n).find? fun i => canM m ((fstN n a + i) % n) with
  | some i => (((fstN n a + i) % n : Nat) : Int)
  | none => -1
theorem nextZ_some {m : Mac} {n : Nat} {a : Int} {i : Nat} (hi : i < n) (hc : canM m ((fstN n a + i) % n) = true) (hn : ∀ j, j < i → canM m ((fstN n a + j) % n) = false) : nextZ m n a = (((fstN n a + i) % n : Nat) : Int) := by
  have : (List.range n).find? (fun i => canM m ((fstN n a + i) % n)) = some i := by
    rw [List.find?_range_eq_some]
    exact ⟨hc, by simpa using hi, fun j hj => by rw [hn j hj]; rfl⟩
  unfold nextZ; rw [this]
theorem nextZ_none {m : Mac} {n : Nat} {a : Int} (hn : ∀ j, j < n → canM m ((fstN n a + j) % n) = false) : nextZ m n a = -1 := by
  have : (List.range n).find? (fun i => canM m ((fstN n a + i) % n)) = none := by
    rw [List.find?_eq_none]
    intro j hj
    rw [hn j (List.mem_range.1 hj)]; simp
  unfold nextZ; rw [this]
theorem nextZ_cases (m : Mac) (n : Nat) (a : Int) : (nextZ m n a = -1 ∧ ∀ j, j < n → canM m ((fstN n a + j) % n) = false) ∨ ∃ i, i < n ∧ nextZ m n a = (((fstN n a + i) % n : Nat) : Int) ∧ canM m ((fstN n a + i) % n) = true ∧ ∀ j, j < i → canM m ((fstN n a + j) % n) = false := by
  cases h : (List.range n).find? (fun i => canM m ((fstN n a + i) % n)) with
  | none =>
    rw [List.find?_eq_none] at h
    have h' : ∀ j, j < n → canM m ((fstN n a + j) % n) = false := fun j hj => by simpa using h j (List.mem_range.2 hj)
    exact .inl ⟨nextZ_none h', h'⟩
  | some i =>
    rw [List.find?_range_eq_some] at h
    obtain ⟨h1, h2, h3⟩ := h
    have h2' : i < n := by simpa using h2
    have h3' : ∀ j, j < i → canM m ((fstN n a + j) % n) = false := fun j hj => by simpa using h3 j hj
    exact .inr ⟨i, h2', nextZ_some h2' h1 h3', h1, h3'⟩
theorem round_all {n : Nat} (f d : Nat) (hf : f < n) (hd : d < n) : ∃ j, j < n ∧ (f + j) % n = d := by
  refine ⟨(d + n - f) % n, Nat.mod_lt _ (by omega), ?_⟩
  rw [Nat.add_mod_mod]
  have : f + (d + n - f) = d + n := by omega
  rw [this, Nat.add_mod_right, Nat.mod_eq_of_lt hd]
section
variable {ev : EvF} {n : Nat} {G : Nat → List Tn} {es : List EvT} {m : Mac}
theorem MInv.next_end (h : MInv es n G m) (hh : haltM m = true) (a : Int) : nextZ m n a = -1 := nextZ_none fun _ _ => h.dead hh _
theorem MInv.next_go (h : MInv es n G m) (hg : Good ev n G es) (hh : haltM m = false) (a : Int) : ∃ i, i < n ∧ nextZ m n a = (((fstN n a + i) % n : Nat) : Int) ∧ canM m ((fstN n a + i) % n) = true ∧ ∀ j, j < i → canM m ((fstN n a + j) % n) = false := by
  rcases nextZ_cases m n a with ⟨_, h2⟩ | h1
  · obtain ⟨d, hd, hc⟩ := h.live hg hh
    obtain ⟨j, hj, he⟩ := round_all (fstN n a) d (fst_lt (by omega) a) hd
    have := h2 j hj
    rw [he, hc] at this
    cases this
  · exact h1
end

theorem c_fairNext {n : Nat} (m : Mac) (y : MacA) (hn : m.l.length = n) (h1 : 1 ≤ n) (h8 : n ≤ 8) (after : Int) : Con Tryz.prog 27 #[.pointer (some ⟨y.g, 0, none⟩), .int .i64 n, .int .i64 after] (macO n m y) (macF m y)
    (fun _ : Unit => True) (fun _ => .int .i64 (nextZ m n after)) (fun _ => macO n m y) (fun _ => []) := by
  refine con_of (n := 42) Tryz.func27 rfl rfl rfl (by simp) ?_
  intro C hC
  refine T_seq (T_reg rfl ?_)
  refine V_q (q_asg rfl rfl) rfl rfl ?_
  refine V_next (fun _ => rfl) ?_
  refine T_seq ?_
  refine T_seq (T_reg rfl ?_)
  refine V_q (q_mov rfl rfl) rfl rfl ?_
  refine V_q (q_eql_pointer rfl Tryz.underlying46 rfl rfl) rfl rfl ?_
  refine V_q (q_mov rfl rfl) rfl rfl ?_
  refine V_want (q_mov rfl rfl) rfl rfl ?_
  refine V_want (q_lt rfl rfl rfl) rfl rfl ?_
  rw [decide_eq_false (show ¬ (n : Int) < 1 by omega)]
  refine V_q (q_pick rfl rfl rfl rfl) rfl rfl ?_
  refine V_q (q_mov rfl rfl) rfl rfl ?_
  refine V_want (q_mov rfl rfl) rfl rfl ?_
  refine V_want (q_gt rfl rfl rfl) rfl rfl ?_
  rw [decide_eq_false (show ¬ (8 : Int) < n by omega)]
  refine V_q (q_pick rfl rfl rfl rfl) rfl rfl ?_
  refine V_next (fun _ => rfl) ?_
  refine T_cond rfl (fun hb => ?_) (fun hb => ?_)
  · cases hb
  refine T_skip_next (fun _ => rfl) ?_
  have ht1 := Int.tmod_lt_of_pos after (show (0 : Int) < n by omega)
  have ht2 := neg_lt_tmod after (show (0 : Int) < n by omega)
  refine T_seq (T_reg rfl ?_)
  refine V_q (q_mov rfl rfl) rfl rfl ?_
  refine V_q (q_mov rfl rfl) rfl rfl ?_
  refine V_q (q_rem rfl rfl rfl (by omega)) rfl rfl ?_
  refine V_q (q_mov rfl rfl) rfl rfl ?_
  refine V_q (q_addI rfl rfl rfl (by omega)) rfl rfl ?_
  refine V_q (q_addI rfl rfl rfl (by omega)) rfl rfl ?_
  refine V_q (q_mov rfl rfl) rfl rfl ?_
  refine V_q (q_rem rfl rfl rfl (by omega)) rfl rfl ?_
  refine V_q (q_asg rfl rfl) rfl rfl ?_
  refine V_next (fun _ => rfl) ?_
  rw [fst1 h1]
  have hf := fst_lt h1 after
  refine T_seq ?_
  refine T_seq (T_reg rfl ?_)
  refine V_q (q_mov rfl rfl) rfl rfl ?_
  refine V_q (q_mov rfl rfl) rfl rfl ?_
  refine V_next (fun _ => rfl) ?_
  refine T_block ?_
  refine T_loop (fun i : Nat => [(0, .pointer (some ⟨y.g, 0, none⟩)), (1, .int .i64 n), (7, .int .i64 (fstN n after : Nat)), (28, .int .i64 n), (29, .int .i64 i)]) (fun _ => macO n m y) (fun _ => macF m y) (fun i => i ≤ n ∧ ∀ j, j < i → canM m ((fstN n after + j) % n) = false) (fun i => n - i) 0 ⟨Nat.zero_le _, by intro j hj; omega⟩ ⟨rfl, rfl, rfl, rfl, rfl, trivial⟩ (fun w h => h) ?_
  rintro i ⟨hi, hall⟩
  refine T_seq (T_reg rfl ?_)
  refine V_q (q_lt rfl rfl rfl) rfl rfl ?_
  refine V_next (fun _ => rfl) ?_
  refine T_seq ?_
  refine T_cond rfl (fun hb => ?_) (fun hb => ?_)
  rotate_left
  · have hie : i = n := by
      have : ¬ (i : Int) < n := by simpa using hb
      omega
    refine T_exit_next (fun _ => rfl) ?_
    refine T_seq (T_reg rfl ?_)
    refine V_q (q_asg rfl rfl) rfl rfl ?_
    refine V_next (fun _ => rfl) ?_
    exact T_ret fun w h => ⟨_, res_1 rfl, (), trivial, by rw [nextZ_none fun j hj => hall j (by omega)], h.pick (by repeat (first | with_reducible exact Pick.nil | apply Pick.cons (by repeat (first | with_reducible exact Sel.head | apply Sel.tail)))) (by simp)⟩
  have hin : i < n := by
    have : (i : Int) < n := by simpa using hb
    omega
  clear hb
  refine T_skip_next (fun _ => rfl) ?_
  refine T_seq ?_
  refine T_block ?_
  refine T_seq (T_reg rfl ?_)
  refine V_q (q_mov rfl rfl) rfl rfl ?_
  refine V_q (q_asg rfl rfl) rfl rfl ?_
  refine V_next (fun _ => rfl) ?_
  have hmod : ((fstN n after : Nat) + (i : Nat) : Int).tmod n = (((fstN n after + i) % n : Nat) : Int) := by
    rw [Int.tmod_eq_emod_of_nonneg (by omega), ← Int.natCast_add, ← Int.natCast_emod]
  refine T_seq (T_reg rfl ?_)
  refine V_q (q_mov rfl rfl) rfl rfl ?_
  refine V_q (q_mov rfl rfl) rfl rfl ?_
  refine V_q (q_addI rfl rfl rfl (by omega)) rfl rfl ?_
  refine V_q (q_mov rfl rfl) rfl rfl ?_
  refine V_q (q_rem rfl rfl rfl (by omega)) rfl rfl ?_
  refine V_q (q_asg rfl rfl) rfl rfl ?_
  refine V_next (fun _ => rfl) ?_
  rw [hmod]
  refine T_seq (T_reg rfl ?_)
  refine V_q (q_mov rfl rfl) rfl rfl ?_
  refine V_q (q_mov rfl rfl) rfl rfl ?_
  refine V_l (l_call rfl ent31 rfl (c_Can m y hn (((fstN n after + i) % n : Nat) : Int)) (by repeat (first | with_reducible exact Pick.nil | apply Pick.cons (by repeat (first | with_reducible exact Sel.head | apply Sel.tail)))) (by repeat (first | with_reducible exact Ins.nil | refine Ins.cons (by repeat (first | with_reducible exact In.head | apply In.tail)) ?_)) (fun _ => (by repeat (first | with_reducible exact App.nil | apply App.cons))) (fun _ => (by repeat (first | with_reducible exact App.nil | apply App.cons)))) rfl rfl ?_; rintro g39 -
  refine V_next (fun _ => rfl) ?_
  rw [canZ_nat]
  refine T_cond rfl (fun hb => ?_) (fun hb => ?_)
  · refine T_seq (T_reg rfl ?_)
    refine V_q (q_mov rfl rfl) rfl rfl ?_
    refine V_q (q_asg rfl rfl) rfl rfl ?_
    refine V_next (fun _ => rfl) ?_
    exact T_ret fun w h => ⟨_, res_1 rfl, (), trivial, by rw [nextZ_some hin hb hall], h.pick (by repeat (first | with_reducible exact Pick.nil | apply Pick.cons (by repeat (first | with_reducible exact Sel.head | apply Sel.tail)))) (by simp)⟩
  · refine T_skip_next (fun _ => rfl) ?_
    refine T_reg rfl ?_
    refine V_q (q_addI rfl rfl rfl (by omega)) rfl rfl ?_
    refine V_q (q_mov rfl rfl) rfl rfl ?_
    refine V_nil ?_
    refine fun w h => ⟨i + 1, ⟨by omega, by omega, fun j hj => ?_⟩, ⟨rfl, rfl, rfl, rfl, rfl, trivial⟩, h.pick (by repeat (first | with_reducible exact Pick.nil | apply Pick.cons (by repeat (first | with_reducible exact Sel.head | apply Sel.tail)))) (by simp)⟩
    by_cases hji : j = i
    · subst hji; exact hb
    · exact hall j (by omega)

theorem c_fairNext0 : Con Tryz.prog 27 #[.pointer none, .int .i64 1, .int .i64 0] [] []
    (fun _ : Unit => True) (fun _ => .int .i64 (-1)) (fun _ => []) (fun _ => []) := by
  refine con_of (n := 42) Tryz.func27 rfl rfl rfl (by simp) ?_
  intro C hC
  refine T_seq (T_reg rfl ?_)
  refine V_q (q_asg rfl rfl) rfl rfl ?_
  refine V_next (fun _ => rfl) ?_
  refine T_seq ?_
  refine T_seq (T_reg rfl ?_)
  refine V_q (q_mov rfl rfl) rfl rfl ?_
  refine V_q (q_eql_pointer rfl Tryz.underlying46 rfl rfl) rfl rfl ?_
  refine V_q (q_mov rfl rfl) rfl rfl ?_
  refine V_skip rfl rfl ?_
  refine V_skip rfl rfl ?_
  refine V_q (q_pick rfl rfl rfl rfl) rfl rfl ?_
  refine V_q (q_mov rfl rfl) rfl rfl ?_
  refine V_skip rfl rfl ?_
  refine V_skip rfl rfl ?_
  refine V_q (q_pick rfl rfl rfl rfl) rfl rfl ?_
  refine V_next (fun _ => rfl) ?_
  refine T_cond rfl (fun hb => ?_) (fun hb => ?_)
  · refine T_seq (T_reg rfl ?_)
    refine V_q (q_asg rfl rfl) rfl rfl ?_
    refine V_next (fun _ => rfl) ?_
    exact T_ret fun w h => ⟨_, res_1 rfl, (), trivial, rfl, h⟩
  · cases hb

theorem c_Stuck {n : Nat} (m : Mac) (y : MacA) (hn : m.l.length = n) (h1 : 1 ≤ n) (h8 : n ≤ 8) : Con Tryz.prog 29 #[.pointer (some ⟨y.g, 0, none⟩), .int .i64 n] (macO n m y) (macF m y)
    (fun _ : Unit => True) (fun _ => .bool (!haltM m && decide (nextZ m n (-1) = -1))) (fun _ => macO n m y) (fun _ => []) := by
  refine con_of (n := 18) Tryz.func29 rfl rfl rfl (by simp) ?_
  intro C hC
  refine T_seq (T_reg rfl ?_)
  refine V_q (q_asg rfl rfl) rfl rfl ?_
  refine V_next (fun _ => rfl) ?_
  cases hh : haltM m with
  | true =>
    have ch := c_Halted m y hn h8
    rw [hh] at ch
    refine T_seq (T_reg rfl ?_)
    refine V_q (q_mov rfl rfl) rfl rfl ?_
    refine V_q (q_neq_pointer rfl Tryz.underlying46 rfl rfl) rfl rfl ?_
    refine V_q (q_mov rfl rfl) rfl rfl ?_
    refine V_want (q_mov rfl rfl) rfl rfl ?_
    refine V_wantl (l_call rfl ent28 rfl (ch) (by repeat (first | with_reducible exact Pick.nil | apply Pick.cons (by repeat (first | with_reducible exact Sel.head | apply Sel.tail)))) (by repeat (first | with_reducible exact Ins.nil | refine Ins.cons (by repeat (first | with_reducible exact In.head | apply In.tail)) ?_)) (fun _ => (by repeat (first | with_reducible exact App.nil | apply App.cons))) (fun _ => (by repeat (first | with_reducible exact App.nil | apply App.cons)))) rfl rfl ?_; rintro g9 -
    refine V_want (q_not rfl rfl) rfl rfl ?_
    refine V_q (q_pick rfl rfl rfl rfl) rfl rfl ?_
    refine V_q (q_mov rfl rfl) rfl rfl ?_
    refine V_skip rfl rfl ?_
    refine V_skip rfl rfl ?_
    refine V_skip rfl rfl ?_
    refine V_skip rfl rfl ?_
    refine V_q (q_pick rfl rfl rfl rfl) rfl rfl ?_
    refine V_q (q_asg rfl rfl) rfl rfl ?_
    refine V_next (fun _ => rfl) ?_
    exact T_ret fun w h => ⟨_, res_1 rfl, (), trivial, rfl, h.pick (by repeat (first | with_reducible exact Pick.nil | apply Pick.cons (by repeat (first | with_reducible exact Sel.head | apply Sel.tail)))) (by simp)⟩
  | false =>
    have ch := c_Halted m y hn h8
    rw [hh] at ch
    refine T_seq (T_reg rfl ?_)
    refine V_q (q_mov rfl rfl) rfl rfl ?_
    refine V_q (q_neq_pointer rfl Tryz.underlying46 rfl rfl) rfl rfl ?_
    refine V_q (q_mov rfl rfl) rfl rfl ?_
    refine V_want (q_mov rfl rfl) rfl rfl ?_
    refine V_wantl (l_call rfl ent28 rfl (ch) (by repeat (first | with_reducible exact Pick.nil | apply Pick.cons (by repeat (first | with_reducible exact Sel.head | apply Sel.tail)))) (by repeat (first | with_reducible exact Ins.nil | refine Ins.cons (by repeat (first | with_reducible exact In.head | apply In.tail)) ?_)) (fun _ => (by repeat (first | with_reducible exact App.nil | apply App.cons))) (fun _ => (by repeat (first | with_reducible exact App.nil | apply App.cons)))) rfl rfl ?_; rintro g9 -
    refine V_want (q_not rfl rfl) rfl rfl ?_
    refine V_q (q_pick rfl rfl rfl rfl) rfl rfl ?_
    refine V_q (q_mov rfl rfl) rfl rfl ?_
    refine V_want (q_mov rfl rfl) rfl rfl ?_
    refine V_want (q_mov rfl rfl) rfl rfl ?_
    refine V_wantl (l_call rfl ent27 rfl (c_fairNext m y hn h1 h8 (-1)) (by repeat (first | with_reducible exact Pick.nil | apply Pick.cons (by repeat (first | with_reducible exact Sel.head | apply Sel.tail)))) (by repeat (first | with_reducible exact Ins.nil | refine Ins.cons (by repeat (first | with_reducible exact In.head | apply In.tail)) ?_)) (fun _ => (by repeat (first | with_reducible exact App.nil | apply App.cons))) (fun _ => (by repeat (first | with_reducible exact App.nil | apply App.cons)))) rfl rfl ?_; rintro g15 -
    refine V_want (q_eq rfl rfl rfl) rfl rfl ?_
    refine V_q (q_pick rfl rfl rfl rfl) rfl rfl ?_
    refine V_q (q_asg rfl rfl) rfl rfl ?_
    refine V_next (fun _ => rfl) ?_
    exact T_ret fun w h => ⟨_, res_1 rfl, (), trivial, by simp, h.pick (by repeat (first | with_reducible exact Pick.nil | apply Pick.cons (by repeat (first | with_reducible exact Sel.head | apply Sel.tail)))) (by simp)⟩

theorem c_Effective {ev : EvF} {n : Nat} {G : Nat → List Tn} {es : List EvT} (hr : Run ev n G es) (m : Mac) (h : MInv es n G m) (y : MacA) (ps : List Int) (a : Option Addr) (k c : Nat) (hk : k ≤ 4000) : Con Tryz.prog 25 #[.pointer (some ⟨y.g, 0, none⟩), .slice a k c] (macO n m y) (aSl I ps a k c :: macF m y)
    (fun _ : List DA × List (Key3 × Value) => True) (fun _ => .tuple #[.int .i64 (didZ ev m ps), .int .i64 0]) (fun z => macO n (runZ ev m ps) { y with As := z.1, EB := z.2 }) (fun z => macF (runZ ev m ps) { y with As := z.1, EB := z.2 }) := by
  refine con_of (n := 13) Tryz.func25 rfl rfl rfl (by simp) ?_
  intro C hC
  refine T_seq (T_reg rfl ?_)
  refine V_q (q_asg rfl rfl) rfl rfl ?_
  refine V_q (q_asg rfl rfl) rfl rfl ?_
  refine V_next (fun _ => rfl) ?_
  refine T_seq ?_
  refine T_seq (T_reg rfl ?_)
  refine V_q (q_mov rfl rfl) rfl rfl ?_
  refine V_q (q_eql_pointer rfl Tryz.underlying46 rfl rfl) rfl rfl ?_
  refine V_next (fun _ => rfl) ?_
  refine T_cond rfl (fun hb => ?_) (fun hb => ?_)
  · cases hb
  refine T_skip_next (fun _ => rfl) ?_
  refine T_seq (T_reg rfl ?_)
  refine V_q (q_mov rfl rfl) rfl rfl ?_
  refine V_q (q_mov rfl rfl) rfl rfl ?_
  refine V_l (l_call rfl ent33 rfl (c_Run hr m h y ps a k c hk) (by repeat (first | with_reducible exact Pick.nil | apply Pick.cons (by repeat (first | with_reducible exact Sel.head | apply Sel.tail)))) (by repeat (first | with_reducible exact Ins.nil | refine Ins.cons (by repeat (first | with_reducible exact In.head | apply In.tail)) ?_)) (fun _ => (by repeat (first | with_reducible exact App.nil | apply App.cons))) (fun _ => (by repeat (first | with_reducible exact App.nil | apply App.cons)))) rfl rfl ?_; rintro ⟨As, EB⟩ -
  refine V_q (q_ext rfl rfl rfl) rfl rfl ?_
  refine V_q (q_ext rfl rfl rfl) rfl rfl ?_
  refine V_q (q_asg rfl rfl) rfl rfl ?_
  refine V_q (q_asg rfl rfl) rfl rfl ?_
  refine V_next (fun _ => rfl) ?_
  exact T_ret fun w h => ⟨_, res_2 rfl rfl, (As, EB), trivial, rfl, h.pick (by repeat (first | with_reducible exact Pick.nil | apply Pick.cons (by repeat (first | with_reducible exact Sel.head | apply Sel.tail)))) (by simp)⟩

def cntL (l : List (List Inst)) : Nat := (l.map List.length).sum
theorem c_Count (l : List (List Inst)) (hl : ∀ p ∈ l, p.length ≤ 100000) (hn : l.length ≤ 1000) (a : Option Addr) (n c : Nat) : Con Tryz.prog 92 #[.slice a n c] [] [aSl (rSl rInst) l a n c]
    (fun _ : Unit => True) (fun _ => .int .i64 (cntL l)) (fun _ => []) (fun _ => []) := by
  refine con_of (n := 18) Tryz.func92 rfl rfl rfl (by simp) ?_
  intro C hC
  refine T_pure (φ := n = l.length) (fun w h => (sl_len h (xs := l) (a := a) (n := n) (c := c) (by repeat (first | with_reducible exact In.head | apply In.tail))).1) (fun hln => ?_)
  refine T_seq (T_reg rfl ?_)
  refine V_q (q_asg rfl rfl) rfl rfl ?_
  refine V_next (fun _ => rfl) ?_
  refine T_seq (T_reg rfl ?_)
  refine V_q (q_asg rfl rfl) rfl rfl ?_
  refine V_next (fun _ => rfl) ?_
  refine T_seq ?_
  refine T_seq (T_reg rfl ?_)
  refine V_q (q_mov rfl rfl) rfl rfl ?_
  refine V_q (q_len rfl Tryz.underlying42 rfl) rfl rfl ?_
  refine V_q (q_mov rfl rfl) rfl rfl ?_
  refine V_next (fun _ => rfl) ?_
  refine T_block ?_
  refine T_loop (fun y : Nat × Nat => [(3, .int .i64 y.2), (6, .slice a n c), (7, .int .i64 n), (8, .int .i64 y.1)]) (fun _ => []) (fun _ => [aSl (rSl rInst) l a n c]) (fun y => y.1 ≤ n ∧ y.2 = cntL (l.take y.1) ∧ y.2 ≤ y.1 * 100000) (fun y => n - y.1) (0, 0) ⟨Nat.zero_le _, rfl, by simp⟩ ⟨rfl, rfl, rfl, rfl, trivial⟩ (fun w h => h) ?_
  rintro ⟨k, s⟩ ⟨hk, hs, hsb⟩
  replace hk : k ≤ n := hk
  replace hs : s = cntL (l.take k) := hs
  replace hsb : s ≤ k * 100000 := hsb
  refine T_seq (T_reg rfl ?_)
  refine V_q (q_lt rfl rfl rfl) rfl rfl ?_
  refine V_next (fun _ => rfl) ?_
  refine T_seq ?_
  refine T_cond rfl (fun hb => ?_) (fun hb => ?_)
  rotate_left
  · have hie : k = n := by
      have : ¬ (k : Int) < n := by simpa using hb
      omega
    refine T_exit_next (fun _ => rfl) ?_
    refine T_seq (T_reg rfl ?_)
    refine V_q (q_mov rfl rfl) rfl rfl ?_
    refine V_q (q_asg rfl rfl) rfl rfl ?_
    refine V_next (fun _ => rfl) ?_
    have ht : l.take k = l := List.take_of_length_le (by omega)
    exact T_ret fun w h => ⟨_, res_1 rfl, (), trivial, by rw [hs, ht], h.weak (List.nil_sublist _) (by simp)⟩
  have hin : k < n := by
    have : (k : Int) < n := by simpa using hb
    omega
  clear hb
  refine T_el1 k rfl (xs := l) (a := a) (n := n) (c := c) (by repeat (first | with_reducible exact In.head | apply In.tail)) hin fun x ad v hx had => ?_
  have hxl := hl x (List.mem_of_getElem? hx)
  refine T_elSl (by repeat (first | with_reducible exact In.head | apply In.tail)) fun pa pn pc hv => ?_
  subst hv
  refine T_pure (φ := pn = x.length) (fun w h => (sl_len h (xs := x) (a := pa) (n := pn) (c := pc) (by repeat (first | with_reducible exact In.head | apply In.tail))).1) (fun hpn => ?_)
  refine T_skip_next (fun _ => rfl) ?_
  refine T_seq ?_
  refine T_block ?_
  refine T_seq (T_reg rfl ?_)
  refine V_q (q_iaE rfl Tryz.underlying42 ty63 rfl rfl hin had) rfl rfl ?_
  refine V_q (q_ldR0 rfl ty63 rfl (by repeat (first | with_reducible exact In.head | apply In.tail))) rfl rfl ?_
  refine V_q (q_asg rfl rfl) rfl rfl ?_
  refine V_next (fun _ => rfl) ?_
  refine T_reg rfl ?_
  refine V_q (q_mov rfl rfl) rfl rfl ?_
  refine V_q (q_mov rfl rfl) rfl rfl ?_
  refine V_q (q_len rfl Tryz.underlying63 rfl) rfl rfl ?_
  refine V_q (q_addE ((s + pn : Nat) : Int) rfl rfl rfl (by show (s : Int) + pn = _; omega) (by omega)) rfl rfl ?_
  refine V_q (q_asg rfl rfl) rfl rfl ?_
  refine V_next (fun _ => rfl) ?_
  refine T_reg rfl ?_
  refine V_q (q_addI rfl rfl rfl (by omega)) rfl rfl ?_
  refine V_q (q_mov rfl rfl) rfl rfl ?_
  refine V_nil ?_
  refine fun w h => ⟨(k + 1, s + pn), ⟨by show n - (k + 1) < n - k; omega, by show k + 1 ≤ n; omega, ?_, by show s + pn ≤ (k + 1) * 100000; omega⟩, ⟨rfl, rfl, rfl, rfl, trivial⟩, h.weak (List.Sublist.refl _) (by simp)⟩
  show s + pn = cntL (l.take (k + 1))
  rw [List.take_add_one, hx, hs, hpn]
  simp [cntL]

theorem c_Bound (l : List (List Inst)) (hl : ∀ p ∈ l, p.length ≤ 100000) (hn : l.length ≤ 1000) (a : Option Addr) (n c : Nat) : Con Tryz.prog 62 #[.slice a n c] [] [aSl (rSl rInst) l a n c]
    (fun _ : Unit => True) (fun _ => .int .i64 (cntL l)) (fun _ => []) (fun _ => []) := by
  refine con_of (n := 5) Tryz.func62 rfl rfl rfl (by simp) ?_
  intro C hC
  refine T_seq (T_reg rfl ?_)
  refine V_q (q_asg rfl rfl) rfl rfl ?_
  refine V_next (fun _ => rfl) ?_
  refine T_seq (T_reg rfl ?_)
  refine V_q (q_mov rfl rfl) rfl rfl ?_
  refine V_l (l_call rfl ent92 rfl (c_Count l hl hn a n c) (by repeat (first | with_reducible exact Pick.nil | apply Pick.cons (by repeat (first | with_reducible exact Sel.head | apply Sel.tail)))) (by repeat (first | with_reducible exact Ins.nil | refine Ins.cons (by repeat (first | with_reducible exact In.head | apply In.tail)) ?_)) (fun _ => (by repeat (first | with_reducible exact App.nil | apply App.cons))) (fun _ => (by repeat (first | with_reducible exact App.nil | apply App.cons)))) rfl rfl ?_; rintro g4 -
  refine V_q (q_asg rfl rfl) rfl rfl ?_
  refine V_next (fun _ => rfl) ?_
  exact T_ret fun w h => ⟨_, res_1 rfl, (), trivial, rfl, h.weak (List.nil_sublist _) (by simp)⟩
end Go.Proofs.YtgbhegmhbeekpaaGreat
