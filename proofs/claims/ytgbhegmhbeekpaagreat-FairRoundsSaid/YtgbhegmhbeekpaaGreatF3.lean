/-
  FairRounds.
-/
import Derived.Test.YtgbhegmhbeekpaaGreatF2
namespace Go.Proofs.YtgbhegmhbeekpaaGreat
open Go
set_option maxRecDepth 100000
set_option linter.unusedVariables false

theorem T1.small {t : Tn} (h : T1 t) : SmT t := by
  obtain ⟨k, h1, h2, h3, h4⟩ := h
  exact ⟨by rw [h3]; simp, by omega⟩
theorem evP_ins {nd : Nd} {ins : List Tn} {v : Tn} (h : evP nd ins = some v) : ins.length ≤ 2 ∧ nd.inn = [] ∧ nd.sh = [] ∧ nd.a = [] := by
  unfold evP at h
  split at h
  · rename_i hz
    refine ⟨?_, hz.1, hz.2.1, hz.2.2.1⟩
    match ins, h with
    | [x], _ => simp
    | [x, y], _ => simp
  · cases h
section
variable {n : Nat} {es : List EvT} {given : List (List Tn)}
theorem OkEv.few {ev : EvF} {G : Nat → List Tn} {a : List EvT} {e : EvT} (h : OkEv evP n G a e) (hs : ShI e.i) : e.i.inn.length ≤ 2 ∧ Sm e.i := by
  cases h with
  | work hd hk hr hv ho =>
    obtain ⟨h1, h2, h3, h4⟩ := evP_ins hv
    rw [List.length_map] at h1
    exact ⟨h1, by omega, by rw [h2]; decide, by rw [h3]; decide, by rw [h4]; decide⟩
  | take hd hk hn hv' ho =>
    rcases hs with h | h | h | h <;> first | (exfalso; omega) | exact ⟨by rw [h.2.1]; decide, by rw [h.2.1]; decide, by rw [h.2.2.1.2.1]; decide, by rw [h.2.2.1.2.2.1]; decide, by rw [h.2.2.1.2.2.2.1]; decide⟩
  | send hd hk x hi hv' h0 h1 ht' =>
    rcases hs with h | h | h | h <;> first | (exfalso; omega) | exact ⟨by omega, by omega, by rw [h.2.2.2.1.2.1]; decide, by rw [h.2.2.2.1.2.2.1]; decide, by rw [h.2.2.2.1.2.2.2.1]; decide⟩
  | recv hd hk ho s hs' sk sd se st sv ht' =>
    rcases hs with h | h | h | h <;> first | (exfalso; omega) | exact ⟨by rw [h.2.1]; decide, by rw [h.2.1]; decide, by rw [h.2.2.1.2.1]; decide, by rw [h.2.2.1.2.2.1]; decide, by rw [h.2.2.1.2.2.2.1]; decide⟩
theorem ProgsOk.each (h : ProgsOk n es given) : ∀ e ∈ es, e.i.inn.length ≤ 2 ∧ Sm e.i := by
  intro e he
  obtain ⟨a, b, q⟩ := List.append_of_mem he
  exact (h.good.split a e b q).few (ev := evP) (h.shp e he)
theorem ProgsOk.run (h : ProgsOk n es given) : Run evP n (Gf given) es :=
  ⟨h.good, by have := h.n4; omega, by have := h.few; omega, fun e he => (h.t1 e he).small, fun e he => by have := (h.each e he).1; omega, fun nd ins v q => nodeP nd ins v q⟩
theorem ProgsOk.progs (h : ProgsOk n es given) : ∀ p ∈ PLs n es, p.length ≤ 65536 ∧ PrOk n p ∧ ∀ i ∈ p, Sm i := by
  intro p hp
  obtain ⟨d, hd, rfl⟩ := List.mem_map.1 hp
  refine ⟨by have := progE_len es d; have := h.few; omega, h.good.prOk h.shp (by have := h.few; omega) (fun e he hk => by have := h.tags e he hk; omega) d, fun i hi => ?_⟩
  unfold progE at hi
  obtain ⟨e, he, rfl⟩ := List.mem_map.1 hi
  exact (h.each e (mem_evd.1 he).1).2
theorem ProgsOk.gives (h : ProgsOk n es given) : ∀ g ∈ given, g.length ≤ 100000 ∧ ∀ t ∈ g, tnOk t = true :=
  fun g hg => ⟨by have := h.gb g hg; omega, fun t ht => (h.gt g hg t ht).ok⟩
theorem mac0_eq (n : Nat) (es : List EvT) (given : List (List Tn)) : Mac.mk (mkDev (PLs n es) given n) [] 0 = mac0 es n (Gf given) := by
  unfold mkDev mac0
  congr 1
  refine List.map_congr_left fun d hd => ?_
  rw [PLs_get es (List.mem_range.1 hd)]
  rfl
end

theorem c_FairRounds (L ps : List Int) (a b : Option Addr) (n1 c1 n2 c2 : Nat) (after : Int) : Con Tryz.prog 4 #[.slice a n1 c1, .slice b n2 c2, .int .i64 after] [] [aSl I L a n1 c1, aSl I ps b n2 c2]
    (fun _ : Unit => True) (fun _ => .bool true) (fun _ => []) (fun _ => []) := by
  refine con_of (n := 102) Tryz.func4 rfl rfl rfl (by simp) ?_
  intro C hC
  refine T_seq (T_reg rfl ?_)
  refine V_q (q_asg rfl rfl) rfl rfl ?_
  refine V_next (fun _ => rfl) ?_
  refine T_seq (T_reg rfl ?_)
  refine V_q (q_mov rfl rfl) rfl rfl ?_
  refine V_l (l_call rfl ent23 rfl (c_Programs L a n1 c1) (by repeat (first | with_reducible exact Pick.nil | apply Pick.cons (by repeat (first | with_reducible exact Sel.head | apply Sel.tail)))) (by repeat (first | with_reducible exact Ins.nil | refine Ins.cons (by repeat (first | with_reducible exact In.head | apply In.tail)) ?_)) (fun _ => (by repeat (first | with_reducible exact App.nil | apply App.cons))) (fun _ => (by repeat (first | with_reducible exact App.nil | apply App.cons)))) rfl rfl ?_; rintro ⟨⟨n, es, given⟩, gp, gg⟩ ho
  refine V_q (q_mov rfl rfl) rfl rfl ?_
  refine V_q (q_ext rfl rfl rfl) rfl rfl ?_
  refine V_q (q_ext rfl rfl rfl) rfl rfl ?_
  refine V_q (q_asg rfl rfl) rfl rfl ?_
  refine V_q (q_asg rfl rfl) rfl rfl ?_
  refine V_next (fun _ => rfl) ?_
  replace ho : ProgsOk n es given := ho
  have e0 : (((n, es, given), gp, gg) : (Nat × List EvT × List (List Tn)) × Nat × Nat).1.1 = n := rfl
  rw [e0]
  have h1 := ho.n1
  have h4 := ho.n4
  have cn := c_New' (PLs n es) given n ⟨h1, by omega⟩ (PLs_len n es) ho.glen ho.progs ho.gives (some ⟨gp, 0, none⟩) (some ⟨gg, 0, none⟩) n n
  rw [mac0_eq n es given] at cn
  refine T_seq (T_reg rfl ?_)
  refine V_q (q_mov rfl rfl) rfl rfl ?_
  refine V_q (q_mov rfl rfl) rfl rfl ?_
  refine V_l (l_call rfl ent24 rfl (cn) (by repeat (first | with_reducible exact Pick.nil | apply Pick.cons (by repeat (first | with_reducible exact Sel.head | apply Sel.tail)))) (by repeat (first | with_reducible exact Ins.nil | refine Ins.cons (by repeat (first | with_reducible exact In.head | apply In.tail)) ?_)) (fun _ => (by repeat (first | with_reducible exact App.nil | apply App.cons))) (fun _ => (by repeat (first | with_reducible exact App.nil | apply App.cons)))) rfl rfl ?_; rintro y -
  refine V_q (q_mov rfl rfl) rfl rfl ?_
  refine V_q (q_ext rfl rfl rfl) rfl rfl ?_
  refine V_q (q_ext rfl rfl rfl) rfl rfl ?_
  refine V_q (q_asg rfl rfl) rfl rfl ?_
  refine V_q (q_asg rfl rfl) rfl rfl ?_
  refine V_next (fun _ => rfl) ?_
  refine T_seq ?_
  refine T_seq (T_reg rfl ?_)
  refine V_q (q_mov rfl rfl) rfl rfl ?_
  refine V_q (q_eql_pointer rfl Tryz.underlying46 rfl rfl) rfl rfl ?_
  refine V_q (q_mov rfl rfl) rfl rfl ?_
  refine V_want (q_mov rfl rfl) rfl rfl ?_
  refine V_want (q_ne rfl rfl rfl) rfl rfl ?_
  refine V_q (q_pick rfl rfl rfl rfl) rfl rfl ?_
  refine V_next (fun _ => rfl) ?_
  refine T_cond rfl (fun hb => ?_) (fun hb => ?_)
  · cases hb
  refine T_skip_next (fun _ => rfl) ?_
  refine T_seq (T_reg rfl ?_)
  refine V_q (q_mov rfl rfl) rfl rfl ?_
  refine V_q (q_len rfl Tryz.underlying42 rfl) rfl rfl ?_
  refine V_q (q_asg rfl rfl) rfl rfl ?_
  refine V_next (fun _ => rfl) ?_
  refine T_seq (T_reg rfl ?_)
  refine V_q (q_mov rfl rfl) rfl rfl ?_
  refine V_q (q_rem rfl rfl rfl (by omega)) rfl rfl ?_
  refine V_q (q_asg rfl rfl) rfl rfl ?_
  refine V_next (fun _ => rfl) ?_
  have ha1 := Int.tmod_lt_of_pos after (show (0 : Int) < 1000 by decide)
  have ha2 := neg_lt_tmod after (show (0 : Int) < 1000 by decide)
  obtain ⟨af, haf⟩ : ∃ x, x = after.tmod 1000 := ⟨_, rfl⟩
  rw [← haf] at ha1 ha2 ⊢
  have hI0 := MInv.start es n (Gf given)
  refine T_seq ?_
  refine T_seq (T_reg rfl ?_)
  refine V_q (q_mov rfl rfl) rfl rfl ?_
  refine V_q (q_mov rfl rfl) rfl rfl ?_
  refine V_q (q_mov rfl rfl) rfl rfl ?_
  refine V_l (l_call rfl ent26 rfl (c_Picks ps b n2 c2 n (by omega)) (by repeat (first | with_reducible exact Pick.nil | apply Pick.cons (by repeat (first | with_reducible exact Sel.head | apply Sel.tail)))) (by repeat (first | with_reducible exact Ins.nil | refine Ins.cons (by repeat (first | with_reducible exact In.head | apply In.tail)) ?_)) (fun _ => (by repeat (first | with_reducible exact App.nil | apply App.cons))) (fun _ => (by repeat (first | with_reducible exact App.nil | apply App.cons)))) rfl rfl ?_; rintro ⟨pa, pc⟩ -
  refine V_l (l_call rfl ent25 rfl (c_Effective ho.run _ hI0 y (picks ps n) pa (min 400 n2) pc (by omega)) (by repeat (first | with_reducible exact Pick.nil | apply Pick.cons (by repeat (first | with_reducible exact Sel.head | apply Sel.tail)))) (by repeat (first | with_reducible exact Ins.nil | refine Ins.cons (by repeat (first | with_reducible exact In.head | apply In.tail)) ?_)) (fun _ => (by repeat (first | with_reducible exact App.nil | apply App.cons))) (fun _ => (by repeat (first | with_reducible exact App.nil | apply App.cons)))) rfl rfl ?_; rintro ⟨As, EB⟩ -
  refine V_q (q_mov rfl rfl) rfl rfl ?_
  refine V_q (q_ext rfl rfl rfl) rfl rfl ?_
  refine V_q (q_ext rfl rfl rfl) rfl rfl ?_
  refine V_q (q_asg rfl rfl) rfl rfl ?_
  refine V_q (q_asg rfl rfl) rfl rfl ?_
  refine V_next (fun _ => rfl) ?_
  refine T_seq (T_reg rfl ?_)
  refine V_q (q_mov rfl rfl) rfl rfl ?_
  refine V_q (q_ne rfl rfl rfl) rfl rfl ?_
  refine V_next (fun _ => rfl) ?_
  refine T_cond rfl (fun hb => ?_) (fun hb => ?_)
  · cases hb
  refine T_skip_next (fun _ => rfl) ?_
  have hI := MInv.ranZ (ev := evP) ho.good (picks ps n) hI0
  obtain ⟨m, hm⟩ : ∃ m, m = runZ evP (mac0 es n (Gf given)) (picks ps n) := ⟨_, rfl⟩
  rw [← hm] at hI ⊢
  have cN := c_fairNext m { y with As := As, EB := EB } hI.len h1 (by omega) af
  have cS := c_Stuck m { y with As := As, EB := EB } hI.len h1 (by omega)
  have cH := c_Halted m { y with As := As, EB := EB } hI.len (by omega)
  refine T_seq (T_reg rfl ?_)
  refine V_q (q_mov rfl rfl) rfl rfl ?_
  refine V_q (q_mov rfl rfl) rfl rfl ?_
  refine V_q (q_mov rfl rfl) rfl rfl ?_
  refine V_l (l_call rfl ent27 rfl (cN) (by repeat (first | with_reducible exact Pick.nil | apply Pick.cons (by repeat (first | with_reducible exact Sel.head | apply Sel.tail)))) (by repeat (first | with_reducible exact Ins.nil | refine Ins.cons (by repeat (first | with_reducible exact In.head | apply In.tail)) ?_)) (fun _ => (by repeat (first | with_reducible exact App.nil | apply App.cons))) (fun _ => (by repeat (first | with_reducible exact App.nil | apply App.cons)))) rfl rfl ?_; rintro g50 -
  refine V_q (q_asg rfl rfl) rfl rfl ?_
  refine V_next (fun _ => rfl) ?_
  refine T_seq ?_
  refine T_seq (T_reg rfl ?_)
  refine V_q (q_mov rfl rfl) rfl rfl ?_
  refine V_l (l_call rfl ent28 rfl (cH) (by repeat (first | with_reducible exact Pick.nil | apply Pick.cons (by repeat (first | with_reducible exact Sel.head | apply Sel.tail)))) (by repeat (first | with_reducible exact Ins.nil | refine Ins.cons (by repeat (first | with_reducible exact In.head | apply In.tail)) ?_)) (fun _ => (by repeat (first | with_reducible exact App.nil | apply App.cons))) (fun _ => (by repeat (first | with_reducible exact App.nil | apply App.cons)))) rfl rfl ?_; rintro g52 -
  refine V_next (fun _ => rfl) ?_
  cases hh : haltM m with
  | true =>
    rw [hh] at cS
    rw [hI.next_end hh]
    refine T_condT rfl rfl ?_
    refine T_seq (T_reg rfl ?_)
    refine V_q (q_mov rfl rfl) rfl rfl ?_
    refine V_q (q_eq rfl rfl rfl) rfl rfl ?_
    refine V_q (q_mov rfl rfl) rfl rfl ?_
    refine V_want (q_mov rfl rfl) rfl rfl ?_
    refine V_want (q_mov rfl rfl) rfl rfl ?_
    refine V_wantl (l_call rfl ent29 rfl (cS) (by repeat (first | with_reducible exact Pick.nil | apply Pick.cons (by repeat (first | with_reducible exact Sel.head | apply Sel.tail)))) (by repeat (first | with_reducible exact Ins.nil | refine Ins.cons (by repeat (first | with_reducible exact In.head | apply In.tail)) ?_)) (fun _ => (by repeat (first | with_reducible exact App.nil | apply App.cons))) (fun _ => (by repeat (first | with_reducible exact App.nil | apply App.cons)))) rfl rfl ?_; rintro g58 -
    refine V_want (q_not rfl rfl) rfl rfl ?_
    refine V_q (q_pick rfl rfl rfl rfl) rfl rfl ?_
    refine V_q (q_mov rfl rfl) rfl rfl ?_
    refine V_wantl (l_call rfl ent30 rfl (c_known26) (by repeat (first | with_reducible exact Pick.nil | apply Pick.cons (by repeat (first | with_reducible exact Sel.head | apply Sel.tail)))) (by repeat (first | with_reducible exact Ins.nil | refine Ins.cons (by repeat (first | with_reducible exact In.head | apply In.tail)) ?_)) (fun _ => (by repeat (first | with_reducible exact App.nil | apply App.cons))) (fun _ => (by repeat (first | with_reducible exact App.nil | apply App.cons)))) rfl rfl ?_; rintro g62 -
    refine V_q (q_pick rfl rfl rfl rfl) rfl rfl ?_
    refine V_q (q_asg rfl rfl) rfl rfl ?_
    refine V_next (fun _ => rfl) ?_
    exact T_ret fun w h => ⟨_, res_1 rfl, (), trivial, rfl, h.weak (List.nil_sublist _) (by simp)⟩
  | false =>
    obtain ⟨i, hi, e, hc, hno⟩ := hI.next_go ho.good hh af
    rw [e]
    refine T_condF rfl rfl ?_
    refine T_skip_next (fun _ => rfl) ?_
    obtain ⟨d, hd⟩ : ∃ d, d = (fstN n af + i) % n := ⟨_, rfl⟩
    have hdn : d < n := by rw [hd]; exact Nat.mod_lt _ h1
    rw [← hd] at e hc ⊢
    have cC := c_Can m { y with As := As, EB := EB } hI.len (d : Int)
    rw [canZ_nat, hc] at cC
    refine T_seq ?_
    refine T_seq (T_reg rfl ?_)
    refine V_q (q_mov rfl rfl) rfl rfl ?_
    refine V_q (q_lt rfl rfl rfl) rfl rfl ?_
    rw [decide_eq_false (show ¬ ((d : Nat) : Int) < 0 by omega)]
    refine V_q (q_mov rfl rfl) rfl rfl ?_
    refine V_want (q_mov rfl rfl) rfl rfl ?_
    refine V_want (q_mov rfl rfl) rfl rfl ?_
    refine V_want (q_ge rfl rfl rfl) rfl rfl ?_
    rw [decide_eq_false (show ¬ ((n : Nat) : Int) ≤ (d : Nat) by omega)]
    refine V_q (q_pick rfl rfl rfl rfl) rfl rfl ?_
    refine V_q (q_mov rfl rfl) rfl rfl ?_
    refine V_want (q_mov rfl rfl) rfl rfl ?_
    refine V_want (q_mov rfl rfl) rfl rfl ?_
    refine V_wantl (l_call rfl ent31 rfl (cC) (by repeat (first | with_reducible exact Pick.nil | apply Pick.cons (by repeat (first | with_reducible exact Sel.head | apply Sel.tail)))) (by repeat (first | with_reducible exact Ins.nil | refine Ins.cons (by repeat (first | with_reducible exact In.head | apply In.tail)) ?_)) (fun _ => (by repeat (first | with_reducible exact App.nil | apply App.cons))) (fun _ => (by repeat (first | with_reducible exact App.nil | apply App.cons)))) rfl rfl ?_; rintro g74 -
    refine V_want (q_not rfl rfl) rfl rfl ?_
    refine V_q (q_pick rfl rfl rfl rfl) rfl rfl ?_
    refine V_next (fun _ => rfl) ?_
    refine T_cond rfl (fun hb => ?_) (fun hb => ?_)
    · cases hb
    refine T_skip_next (fun _ => rfl) ?_
    refine T_seq ?_
    have hfl := fst_lt h1 af
    have hb1 := Int.tmod_lt_of_pos (af + 1) (show (0 : Int) < n by omega)
    have hb2 := neg_lt_tmod (af + 1) (show (0 : Int) < n by omega)
    refine T_seq (T_reg rfl ?_)
    refine V_q (q_mov rfl rfl) rfl rfl ?_
    refine V_q (q_addI rfl rfl rfl (by omega)) rfl rfl ?_
    refine V_q (q_mov rfl rfl) rfl rfl ?_
    refine V_q (q_rem rfl rfl rfl (by omega)) rfl rfl ?_
    refine V_q (q_mov rfl rfl) rfl rfl ?_
    refine V_q (q_addI rfl rfl rfl (by omega)) rfl rfl ?_
    refine V_q (q_mov rfl rfl) rfl rfl ?_
    refine V_q (q_rem rfl rfl rfl (by omega)) rfl rfl ?_
    refine V_q (q_asg rfl rfl) rfl rfl ?_
    refine V_next (fun _ => rfl) ?_
    rw [fst2 h1 af]
    refine T_block ?_
    refine T_loop (fun j : Nat => [(9, .pointer (some ⟨y.g, 0, none⟩)), (11, .int .i64 n), (14, .int .i64 d), (15, .int .i64 ((fstN n af + j) % n : Nat))]) (fun _ => macO n m { y with As := As, EB := EB }) (fun _ => macF m { y with As := As, EB := EB }) (fun j => j ≤ i) (fun j => i - j) 0 (Nat.zero_le _) ⟨rfl, rfl, rfl, by rw [Nat.add_zero, Nat.mod_eq_of_lt hfl]; rfl, trivial⟩ (fun w h => h.pick (by repeat (first | with_reducible exact Pick.nil | apply Pick.cons (by repeat (first | with_reducible exact Sel.head | apply Sel.tail)))) (by simp)) ?_
    rintro j hj
    replace hj : j ≤ i := hj
    obtain ⟨k, hk⟩ : ∃ k, k = (fstN n af + j) % n := ⟨_, rfl⟩
    have hkn : k < n := by rw [hk]; exact Nat.mod_lt _ h1
    rw [← hk]
    refine T_seq ?_
    refine T_seq (T_reg rfl ?_)
    refine V_q (q_mov rfl rfl) rfl rfl ?_
    refine V_q (q_mov rfl rfl) rfl rfl ?_
    refine V_q (q_ne rfl rfl rfl) rfl rfl ?_
    refine V_next (fun _ => rfl) ?_
    refine T_cond rfl (fun hb => ?_) (fun hb => ?_)
    rotate_left
    · refine T_exit_next (fun _ => rfl) ?_
      have e2 : decide (nextZ m n (-1) = -1) = false := by
        obtain ⟨i', _, e', _⟩ := hI.next_go ho.good hh (-1)
        rw [e']
        exact decide_eq_false (by omega)
      rw [hh, e2] at cS
      refine T_seq (T_reg rfl ?_)
      refine V_q (q_mov rfl rfl) rfl rfl ?_
      refine V_q (q_mov rfl rfl) rfl rfl ?_
      refine V_l (l_call rfl ent29 rfl (cS) (by repeat (first | with_reducible exact Pick.nil | apply Pick.cons (by repeat (first | with_reducible exact Sel.head | apply Sel.tail)))) (by repeat (first | with_reducible exact Ins.nil | refine Ins.cons (by repeat (first | with_reducible exact In.head | apply In.tail)) ?_)) (fun _ => (by repeat (first | with_reducible exact App.nil | apply App.cons))) (fun _ => (by repeat (first | with_reducible exact App.nil | apply App.cons)))) rfl rfl ?_; rintro g97 -
      refine V_q (q_not rfl rfl) rfl rfl ?_
      refine V_q (q_mov rfl rfl) rfl rfl ?_
      refine V_wantl (l_call rfl ent30 rfl (c_known26) (by repeat (first | with_reducible exact Pick.nil | apply Pick.cons (by repeat (first | with_reducible exact Sel.head | apply Sel.tail)))) (by repeat (first | with_reducible exact Ins.nil | refine Ins.cons (by repeat (first | with_reducible exact In.head | apply In.tail)) ?_)) (fun _ => (by repeat (first | with_reducible exact App.nil | apply App.cons))) (fun _ => (by repeat (first | with_reducible exact App.nil | apply App.cons)))) rfl rfl ?_; rintro g100 -
      refine V_q (q_pick rfl rfl rfl rfl) rfl rfl ?_
      refine V_q (q_asg rfl rfl) rfl rfl ?_
      refine V_next (fun _ => rfl) ?_
      exact T_ret fun w h => ⟨_, res_1 rfl, (), trivial, rfl, h.weak (List.nil_sublist _) (by simp)⟩
    have hji : j < i := by
      have h5 : (k : Int) ≠ d := by simpa using hb
      refine Nat.lt_of_le_of_ne hj fun e6 => h5 ?_
      rw [hk, hd, e6]
    refine T_skip_next (fun _ => rfl) ?_
    refine T_seq ?_
    refine T_block ?_
    have cK := c_Can m { y with As := As, EB := EB } hI.len (k : Int)
    rw [canZ_nat, hk, hno j hji, ← hk] at cK
    refine T_seq (T_reg rfl ?_)
    refine V_q (q_mov rfl rfl) rfl rfl ?_
    refine V_q (q_mov rfl rfl) rfl rfl ?_
    refine V_l (l_call rfl ent31 rfl (cK) (by repeat (first | with_reducible exact Pick.nil | apply Pick.cons (by repeat (first | with_reducible exact Sel.head | apply Sel.tail)))) (by repeat (first | with_reducible exact Ins.nil | refine Ins.cons (by repeat (first | with_reducible exact In.head | apply In.tail)) ?_)) (fun _ => (by repeat (first | with_reducible exact App.nil | apply App.cons))) (fun _ => (by repeat (first | with_reducible exact App.nil | apply App.cons)))) rfl rfl ?_; rintro g94 -
    refine V_next (fun _ => rfl) ?_
    refine T_cond rfl (fun hb => ?_) (fun hb => ?_)
    · cases hb
    · refine T_skip_next (fun _ => rfl) ?_
      have e7 : ((k : Nat) + 1 : Int).tmod n = (((fstN n af + (j + 1)) % n : Nat) : Int) := by
        rw [Int.tmod_eq_emod_of_nonneg (by omega), ← Nat.add_assoc, ← Nat.mod_add_mod, ← hk, Int.natCast_emod]
        rfl
      refine T_reg rfl ?_
      refine V_q (q_mov rfl rfl) rfl rfl ?_
      refine V_q (q_addI rfl rfl rfl (by omega)) rfl rfl ?_
      refine V_q (q_mov rfl rfl) rfl rfl ?_
      refine V_q (q_rem rfl rfl rfl (by omega)) rfl rfl ?_
      refine V_q (q_asg rfl rfl) rfl rfl ?_
      refine V_nil ?_
      rw [e7]
      refine fun w h => ⟨j + 1, ⟨by show i - (j + 1) < i - j; omega, by show j + 1 ≤ i; omega⟩, ⟨rfl, rfl, rfl, rfl, trivial⟩, h.pick (by repeat (first | with_reducible exact Pick.nil | apply Pick.cons (by repeat (first | with_reducible exact Sel.head | apply Sel.tail)))) (by simp)⟩
end Go.Proofs.YtgbhegmhbeekpaaGreat
