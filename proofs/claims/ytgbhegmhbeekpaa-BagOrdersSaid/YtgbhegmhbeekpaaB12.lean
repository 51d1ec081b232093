/-
  play: whatever is asked, the bag answers as the list does.
-/
import Derived.Test.YtgbhegmhbeekpaaB11
namespace Go.Proofs.Ytgbhegmhbeekpaa
open Go

theorem c_play (asks : List Ask) (a : Option Addr) (n c : Nat) : Con Try.prog 6 #[.slice a n c] [] [aSl rAsk asks a n c]
    (fun _ : Unit => True) (fun _ => .bool true) (fun _ => []) (fun _ => []) := by
  refine con_of (n := 136) Try.func6 rfl rfl rfl (by simp) ?_
  intro C hC
  refine T_seq (T_reg rfl ?_)
  refine V_q (q_asg rfl rfl) rfl rfl ?_
  refine V_next (fun _ => rfl) ?_
  refine T_seq (T_reg rfl ?_)
  refine V_l (l_call rfl ent10 rfl (c_New) (by repeat (first | with_reducible exact Pick.nil | apply Pick.cons (by repeat (first | with_reducible exact Sel.head | apply Sel.tail)))) (by repeat (first | with_reducible exact Ins.nil | refine Ins.cons (by repeat (first | with_reducible exact In.head | apply In.tail)) ?_)) (fun _ => (by repeat (first | with_reducible exact App.nil | apply App.cons))) (fun _ => (by repeat (first | with_reducible exact App.nil | apply App.cons)))) rfl rfl ?_; rintro ⟨g, r⟩ -
  refine V_q (q_asg rfl rfl) rfl rfl ?_
  refine V_next (fun _ => rfl) ?_
  refine T_seq (T_reg rfl ?_)
  refine V_q (q_asg rfl rfl) rfl rfl ?_
  refine V_next (fun _ => rfl) ?_
  refine T_ghost (fun w h => h.rowNil 41 5) ?_
  refine T_seq ?_
  refine T_seq (T_reg rfl ?_)
  refine V_q (q_asg rfl rfl) rfl rfl ?_
  refine V_next (fun _ => rfl) ?_
  refine T_block ?_
  refine T_loop (fun y : Nat × List (Key3 × Tn) × List (Key3 × Value) × Value × List Value => [(0, .slice a n c), (3, .pointer (some ⟨g, 0, none⟩)), (4, y.2.2.2.1), (5, .int .i64 y.1)]) (fun y => [rOwn 41 5 y.2.2.2.1 y.2.1.length y.2.2.2.2, rBlk g 56 [.map (some r)], rMap κ3 r y.2.2.1]) (fun y => [aEv rMsg (y.2.1.map toMsg) y.2.2.2.2, aMp rTn y.2.1 y.2.2.1, aSl rAsk asks a n c])
    (fun y => y.1 ≤ n ∧ y.1 ≤ 80 ∧ y.2.1.length ≤ y.1 ∧ (y.2.1.map (·.1)).Nodup ∧ ∀ p ∈ y.2.1, SmT p.2) (fun y => n - y.1) (0, [], [], .slice none 0 0, []) ⟨Nat.zero_le _, by decide, Nat.le_refl _, List.nodup_nil, by simp⟩ ⟨rfl, rfl, rfl, rfl, trivial⟩ (fun w h => h.know (aEv rMsg [] []) (EvP.nil _ _ _)) ?_
  rintro ⟨i, B, E, v, cs⟩ ⟨h1, h2, h3, h4, h5⟩
  replace h1 : i ≤ n := h1
  replace h2 : i ≤ 80 := h2
  replace h3 : B.length ≤ i := h3
  replace h4 : (B.map (·.1)).Nodup := h4
  replace h5 : ∀ p ∈ B, SmT p.2 := h5
  refine T_seq ?_
  refine T_seq (T_reg rfl ?_)
  refine V_q (q_mov rfl rfl) rfl rfl ?_
  refine V_q (q_mov rfl rfl) rfl rfl ?_
  refine V_q (q_len rfl Try.underlying22 rfl) rfl rfl ?_
  refine V_q (q_lt rfl rfl rfl) rfl rfl ?_
  refine V_q (q_mov rfl rfl) rfl rfl ?_
  by_cases hin : (i : Int) < n
  rotate_left
  · rw [decide_eq_false hin]
    refine V_skip rfl rfl ?_
    refine V_skip rfl rfl ?_
    refine V_q (q_pick rfl rfl rfl rfl) rfl rfl ?_
    refine V_next (fun _ => rfl) ?_
    refine T_cond rfl (fun hb => ?_) (fun hb => ?_)
    · cases hb
    refine T_exit_next (fun _ => rfl) ?_
    refine T_seq (T_reg rfl ?_)
    refine V_q (q_mov rfl rfl) rfl rfl ?_
    refine V_q (q_neq_pointer rfl Try.underlying34 rfl rfl) rfl rfl ?_
    refine V_q (q_asg rfl rfl) rfl rfl ?_
    refine V_next (fun _ => rfl) ?_
    exact T_ret fun w h => ⟨_, res_1 rfl, (), trivial, rfl, h.weak (List.nil_sublist _) (by simp)⟩
  rw [decide_eq_true hin]
  refine V_want (q_mov rfl rfl) rfl rfl ?_
  refine V_want (q_lt rfl rfl rfl) rfl rfl ?_
  refine V_q (q_pick rfl rfl rfl rfl) rfl rfl ?_
  refine V_next (fun _ => rfl) ?_
  refine T_cond rfl (fun hb => ?_) (fun hb => ?_)
  rotate_left
  · refine T_exit_next (fun _ => rfl) ?_
    refine T_seq (T_reg rfl ?_)
    refine V_q (q_mov rfl rfl) rfl rfl ?_
    refine V_q (q_neq_pointer rfl Try.underlying34 rfl rfl) rfl rfl ?_
    refine V_q (q_asg rfl rfl) rfl rfl ?_
    refine V_next (fun _ => rfl) ?_
    exact T_ret fun w h => ⟨_, res_1 rfl, (), trivial, rfl, h.weak (List.nil_sublist _) (by simp)⟩
  have hi80 : i < 80 := by
    have : (i : Int) < 80 := by simpa using hb
    omega
  clear hb
  refine T_skip_next (fun _ => rfl) ?_
  refine T_seq ?_
  refine T_block ?_
  refine T_ask i (by repeat (first | with_reducible exact In.head | apply In.tail)) (by omega) fun x ad hx had => ?_
  refine T_seq (T_reg rfl ?_)
  refine V_q (q_mov rfl rfl) rfl rfl ?_
  refine V_q (q_mov rfl rfl) rfl rfl ?_
  refine V_q (q_iaE rfl Try.underlying22 ty24 rfl rfl (by omega) (by assumption)) rfl rfl ?_
  refine V_q (q_ldRA rfl ty24 rfl rfl (by repeat (first | with_reducible exact In.head | apply In.tail))) rfl rfl ?_
  refine V_l (l_alloc (cs := [.int .i64 0, .int .i64 0, .int .i64 0, .int .i64 0, .int .i64 0]) rfl tz24 rfl) rfl rfl ?_; rintro g6 -
  refine V_n (l_st rfl ty24 rfl rfl rfl rfl rfl (by repeat (first | with_reducible exact Put.head | apply Put.tail)) (by repeat (first | exact PutL.z | apply PutL.s | apply PutL.t))) rfl rfl ?_; rintro ⟨⟩ -
  refine V_next (fun _ => rfl) ?_
  refine T_seq ?_
  refine T_seq (T_reg rfl ?_)
  refine V_q (q_mov rfl rfl) rfl rfl ?_
  refine V_q (q_eql_pointer rfl Try.underlying34 rfl rfl) rfl rfl ?_
  refine V_next (fun _ => rfl) ?_
  refine T_cond rfl (fun hb => ?_) (fun hb => ?_)
  · cases hb
  refine T_skip_next (fun _ => rfl) ?_
  refine T_lend rMsg (k := 5) rfl (by decide) (xs := B.map toMsg) (by repeat (first | with_reducible exact Sel.head | apply Sel.tail)) (by repeat (first | with_reducible exact In.head | apply In.tail)) fun C1 wa wc hv hret hdrop => ?_
  replace hv : v = .slice wa B.length wc := hv
  subst hv
  refine T_seq (T_reg rfl ?_)
  refine V_q (q_mov rfl rfl) rfl rfl ?_
  refine V_q (q_ldA rfl ty24 rfl (by repeat (first | with_reducible exact Sel.head | apply Sel.tail)) (by repeat (first | exact SubL.z | apply SubL.s | apply SubL.t))) rfl rfl ?_
  refine V_l (l_call rfl ent17 rfl (c_find (B.map toMsg) wa B.length wc x.kind x.fr x.to x.tag x.n) (by repeat (first | with_reducible exact Pick.nil | apply Pick.cons (by repeat (first | with_reducible exact Sel.head | apply Sel.tail)))) (by repeat (first | with_reducible exact Ins.nil | refine Ins.cons (by repeat (first | with_reducible exact In.head | apply In.tail)) ?_)) (fun _ => (by repeat (first | with_reducible exact App.nil | apply App.cons))) (fun _ => (by repeat (first | with_reducible exact App.nil | apply App.cons)))) rfl rfl ?_; rintro g30 -
  refine V_q (q_asg rfl rfl) rfl rfl ?_
  refine V_next (fun _ => rfl) ?_
  refine T_back (fun w h => hret _ _ _ h) ?_
  clear hret hdrop
  refine T_cut (fun y : List (Key3 × Tn) × List (Key3 × Value) × Value × List Value => [(0, .slice a n c), (3, .pointer (some ⟨g, 0, none⟩)), (4, y.2.2.1), (5, .int .i64 i)]) (fun y => [rOwn 41 5 y.2.2.1 y.1.length y.2.2.2, rBlk g 56 [.map (some r)], rMap κ3 r y.2.1]) (fun y => [aEv rMsg (y.1.map toMsg) y.2.2.2, aMp rTn y.1 y.2.1, aSl rAsk asks a n c])
    (fun y => y.1.length ≤ i + 1 ∧ (y.1.map (·.1)).Nodup ∧ ∀ p ∈ y.1, SmT p.2) ?_ ?_
  rotate_left
  · rintro ⟨B', E', v', cs'⟩ ⟨k1, k2, k3⟩
    replace k1 : B'.length ≤ i + 1 := k1
    refine T_lend rMsg (k := 5) rfl (by decide) (xs := B'.map toMsg) (by repeat (first | with_reducible exact Sel.head | apply Sel.tail)) (by repeat (first | with_reducible exact In.head | apply In.tail)) fun C2 wa' wc' hv hret hdrop => ?_
    replace hv : v' = .slice wa' B'.length wc' := hv
    subst hv
    have cm := fun p q r' s => c_Messages (sorted (B'.map toMsg)) (sorted (B'.map toMsg)) p q B'.length r' B'.length s
    simp only [decide_true] at cm
    refine T_seq (T_reg rfl ?_)
    refine V_q (q_mov rfl rfl) rfl rfl ?_
    refine V_l (l_call rfl ent14 rfl (c_Len g r B' E') (by repeat (first | with_reducible exact Pick.nil | apply Pick.cons (by repeat (first | with_reducible exact Sel.head | apply Sel.tail)))) (by repeat (first | with_reducible exact Ins.nil | refine Ins.cons (by repeat (first | with_reducible exact In.head | apply In.tail)) ?_)) (fun _ => (by repeat (first | with_reducible exact App.nil | apply App.cons))) (fun _ => (by repeat (first | with_reducible exact App.nil | apply App.cons)))) rfl rfl ?_; rintro g122 -
    refine V_q (q_mov rfl rfl) rfl rfl ?_
    refine V_q (q_len rfl Try.underlying43 rfl) rfl rfl ?_
    refine V_q (Qu.eq (Y := .bool false) (q_ne rfl rfl rfl) (by simp)) rfl rfl ?_
    refine V_q (q_mov rfl rfl) rfl rfl ?_
    refine V_want (q_mov rfl rfl) rfl rfl ?_
    refine V_wantl (l_call rfl ent13 rfl (c_All g r B' E' k3 (by omega)) (by repeat (first | with_reducible exact Pick.nil | apply Pick.cons (by repeat (first | with_reducible exact Sel.head | apply Sel.tail)))) (by repeat (first | with_reducible exact Ins.nil | refine Ins.cons (by repeat (first | with_reducible exact In.head | apply In.tail)) ?_)) (fun _ => (by repeat (first | with_reducible exact App.nil | apply App.cons))) (fun _ => (by repeat (first | with_reducible exact App.nil | apply App.cons)))) rfl rfl ?_; rintro ⟨aa, ac⟩ -
    refine V_want (q_mov rfl rfl) rfl rfl ?_
    refine V_wantl (l_call rfl ent19 rfl (c_Sorted (B'.map toMsg) wa' B'.length wc' (by omega)) (by repeat (first | with_reducible exact Pick.nil | apply Pick.cons (by repeat (first | with_reducible exact Sel.head | apply Sel.tail)))) (by repeat (first | with_reducible exact Ins.nil | refine Ins.cons (by repeat (first | with_reducible exact In.head | apply In.tail)) ?_)) (fun _ => (by repeat (first | with_reducible exact App.nil | apply App.cons))) (fun _ => (by repeat (first | with_reducible exact App.nil | apply App.cons)))) rfl rfl ?_; rintro ⟨sa1, sc⟩ -
    refine V_wantl (l_call rfl ent12 rfl (cm aa sa1 ac sc) (by repeat (first | with_reducible exact Pick.nil | apply Pick.cons (by repeat (first | with_reducible exact Sel.head | apply Sel.tail)))) (by repeat (first | with_reducible exact Ins.nil | refine Ins.cons (by repeat (first | with_reducible exact In.head | apply In.tail)) ?_)) (fun _ => (by repeat (first | with_reducible exact App.nil | apply App.cons))) (fun _ => (by repeat (first | with_reducible exact App.nil | apply App.cons)))) rfl rfl ?_; rintro g131 -
    refine V_want (q_not rfl rfl) rfl rfl ?_
    refine V_q (q_pick rfl rfl rfl rfl) rfl rfl ?_
    refine V_next (fun _ => rfl) ?_
    refine T_cond rfl (fun hb => ?_) (fun hb => ?_)
    · cases hb
    refine T_skip_next (fun _ => rfl) ?_
    refine T_back (fun w h => hret _ _ _ h) ?_
    refine T_reg rfl ?_
    refine V_q (q_mov rfl rfl) rfl rfl ?_
    refine V_q (q_addI rfl rfl rfl (by omega)) rfl rfl ?_
    refine V_q (q_asg rfl rfl) rfl rfl ?_
    refine V_nil ?_
    exact fun w h => ⟨(i + 1, B', E', .slice wa' B'.length wc', cs'), ⟨by show n - (i + 1) < n - i; omega, by show i + 1 ≤ n; omega, by show i + 1 ≤ 80; omega, k1, k2, k3⟩, ⟨rfl, rfl, rfl, rfl, trivial⟩, h.pick (by repeat (first | with_reducible exact Pick.nil | apply Pick.cons (by repeat (first | with_reducible exact Sel.head | apply Sel.tail)))) (by simp)⟩
  rcases fnd_spec B x.fr x.to x.tag h4 with ⟨hl, hf⟩ | ⟨j, t, hl, hf, hj, hjm, hmem, hdel⟩
  · rw [hf]
    have hde := delE_none hl
    refine T_seq (T_reg rfl ?_)
    refine V_q (q_fa rfl fd24_0 rfl) rfl rfl ?_
    refine V_q (q_ld rfl ty3 rfl (by repeat (first | with_reducible exact Sel.head | apply Sel.tail)) rfl) rfl rfl ?_
    refine V_next (fun _ => rfl) ?_
    refine T_block ?_
    refine T_seq (T_reg rfl ?_)
    refine V_q (q_eq rfl rfl rfl) rfl rfl ?_
    refine V_q (q_asg rfl rfl) rfl rfl ?_
    refine V_next (fun _ => rfl) ?_
    refine T_cond rfl (fun hb => ?_) (fun hb => ?_)
    · have ct := c_Take g r B E x.fr x.to x.tag
      simp only [hl, hde, Option.isSome_none, Option.getD_none] at ct
      refine T_seq (T_reg rfl ?_)
      refine V_q (q_mov rfl rfl) rfl rfl ?_
      refine V_q (q_fa rfl fd24_1 rfl) rfl rfl ?_
      refine V_q (q_ld rfl ty3 rfl (by repeat (first | with_reducible exact Sel.head | apply Sel.tail)) rfl) rfl rfl ?_
      refine V_q (q_fa rfl fd24_2 rfl) rfl rfl ?_
      refine V_q (q_ld rfl ty3 rfl (by repeat (first | with_reducible exact Sel.head | apply Sel.tail)) rfl) rfl rfl ?_
      refine V_q (q_fa rfl fd24_3 rfl) rfl rfl ?_
      refine V_q (q_ld rfl ty3 rfl (by repeat (first | with_reducible exact Sel.head | apply Sel.tail)) rfl) rfl rfl ?_
      refine V_l (l_call rfl ent15 rfl (ct) (by repeat (first | with_reducible exact Pick.nil | apply Pick.cons (by repeat (first | with_reducible exact Sel.head | apply Sel.tail)))) (by repeat (first | with_reducible exact Ins.nil | refine Ins.cons (by repeat (first | with_reducible exact In.head | apply In.tail)) ?_)) (fun _ => (by repeat (first | with_reducible exact App.nil | apply App.cons))) (fun _ => (by repeat (first | with_reducible exact App.nil | apply App.cons)))) rfl rfl ?_; rintro ⟨⟨pa, pn, pc⟩, ⟨qa, qn, qc⟩⟩ -
      refine V_q (q_mov rfl rfl) rfl rfl ?_
      refine V_q (q_ext rfl rfl rfl) rfl rfl ?_
      refine V_q (q_ext rfl rfl rfl) rfl rfl ?_
      refine V_l (l_alloc (cs := [.slice none 0 0, .slice none 0 0]) rfl tz39 rfl) rfl rfl ?_; rintro g8 -
      refine V_n (l_st rfl ty39 rfl rfl rfl rfl rfl (by repeat (first | with_reducible exact Put.head | apply Put.tail)) (by repeat (first | exact PutL.z | apply PutL.s | apply PutL.t))) rfl rfl ?_; rintro ⟨⟩ -
      refine V_q (q_asg rfl rfl) rfl rfl ?_
      refine V_next (fun _ => rfl) ?_
      refine T_pure (φ := qn = 0) (fun w h => (sl_len h (xs := Tn0.da) (a := qa) In.head.tail.tail).1) (fun hq => ?_)
      subst hq
      refine T_seq ?_
      refine T_seq (T_drawn hmix (.pure 0 <| .pure 1 <| .pure 2 <| .pure 3 <| .pure 4 <| .pure 5 <| .pure 6 <| .quiet 7 <| .pure 8 <| .pure 9 <| .pure 10 <| .pure 11 <| .quiet 12 <| .bar 13 <| .pure 14 <| .pure 15 <| .pure 16 <| .pure 17 <| .pure 18 <| .pure 19 <| .pure 20 <| .pure 21 <| .quiet 22 <| .pure 23 <| .pure 24 <| .pure 25 <| .pure 26 <| .fin) (by decide +kernel) ?_)
      refine W_p rfl (q_mov rfl rfl) rfl rfl ?_
      refine W_p rfl (q_mov rfl rfl) rfl rfl ?_
      refine W_p rfl (q_ge rfl rfl rfl) rfl rfl ?_
      refine W_p rfl (q_neq_bool rfl Try.underlying4 rfl rfl) rfl rfl ?_
      refine W_p rfl (q_mov rfl rfl) rfl rfl ?_
      refine W_p rfl (q_mov rfl rfl) rfl rfl ?_
      refine W_p rfl (q_mov rfl rfl) rfl rfl ?_
      refine W_quietskip rfl rfl rfl ?_
      refine W_pskip rfl rfl rfl ?_
      refine W_pskip rfl rfl rfl ?_
      refine W_pskip rfl rfl rfl ?_
      refine W_pskip rfl rfl rfl ?_
      refine W_quietskip rfl rfl rfl ?_
      refine W_barskip rfl rfl rfl ?_
      refine W_pskip rfl rfl rfl ?_
      refine W_p rfl (q_pick rfl rfl rfl rfl) rfl rfl ?_
      refine W_p rfl (q_pick rfl rfl rfl rfl) rfl rfl ?_
      refine W_p rfl (q_mov rfl rfl) rfl rfl ?_
      refine W_p rfl (q_mov rfl rfl) rfl rfl ?_
      refine W_p rfl (q_not rfl rfl) rfl rfl ?_
      refine W_p rfl (q_mov rfl rfl) rfl rfl ?_
      refine W_p rfl (q_fa rfl fd39_1 rfl) rfl rfl ?_
      refine W_ld rfl rfl ty37 rfl (by repeat (first | with_reducible exact Sel.head | apply Sel.tail)) rfl rfl rfl ?_
      refine W_p rfl (q_len rfl Try.underlying37 rfl) rfl rfl ?_
      refine W_p rfl (q_ne rfl rfl rfl) rfl rfl ?_
      refine W_p rfl (q_pick rfl rfl rfl rfl) rfl rfl ?_
      refine W_p rfl (q_pick rfl rfl rfl rfl) rfl rfl ?_
      refine W_next (fun _ => rfl) ?_
      refine T_cond rfl (fun hb => ?_) (fun hb => ?_)
      · cases hb
      refine T_skip_next (fun _ => rfl) ?_
      refine T_seq (T_reg rfl ?_)
      refine V_q (q_mov rfl rfl) rfl rfl ?_
      refine V_next (fun _ => rfl) ?_
      refine T_cond rfl (fun hb => ?_) (fun hb => ?_)
      · cases hb
      exact T_skip fun w h => ⟨(B, delE E (x.fr, x.to, x.tag), .slice wa B.length wc, cs), ⟨by show B.length ≤ i + 1; omega, h4, h5⟩, ⟨rfl, rfl, rfl, rfl, trivial⟩, h.pick (by repeat (first | with_reducible exact Pick.nil | apply Pick.cons (by repeat (first | with_reducible exact Sel.head | apply Sel.tail)))) (by simp)⟩
    · refine T_seq (T_reg rfl ?_)
      refine V_q (q_eq rfl rfl rfl) rfl rfl ?_
      refine V_q (q_asg rfl rfl) rfl rfl ?_
      refine V_next (fun _ => rfl) ?_
      refine T_cond rfl (fun hb => ?_) (fun hb => ?_)
      · have ch := c_Has g r B E x.fr x.to x.tag
        simp only [hl, Option.isSome_none] at ch
        refine T_seq (T_reg rfl ?_)
        refine V_q (q_mov rfl rfl) rfl rfl ?_
        refine V_q (q_fa rfl fd24_1 rfl) rfl rfl ?_
        refine V_q (q_ld rfl ty3 rfl (by repeat (first | with_reducible exact Sel.head | apply Sel.tail)) rfl) rfl rfl ?_
        refine V_q (q_fa rfl fd24_2 rfl) rfl rfl ?_
        refine V_q (q_ld rfl ty3 rfl (by repeat (first | with_reducible exact Sel.head | apply Sel.tail)) rfl) rfl rfl ?_
        refine V_q (q_fa rfl fd24_3 rfl) rfl rfl ?_
        refine V_q (q_ld rfl ty3 rfl (by repeat (first | with_reducible exact Sel.head | apply Sel.tail)) rfl) rfl rfl ?_
        refine V_l (l_call rfl ent16 rfl (ch) (by repeat (first | with_reducible exact Pick.nil | apply Pick.cons (by repeat (first | with_reducible exact Sel.head | apply Sel.tail)))) (by repeat (first | with_reducible exact Ins.nil | refine Ins.cons (by repeat (first | with_reducible exact In.head | apply In.tail)) ?_)) (fun _ => (by repeat (first | with_reducible exact App.nil | apply App.cons))) (fun _ => (by repeat (first | with_reducible exact App.nil | apply App.cons)))) rfl rfl ?_; rintro g117 -
        refine V_q (q_mov rfl rfl) rfl rfl ?_
        refine V_q (q_ge rfl rfl rfl) rfl rfl ?_
        refine V_q (q_neq_bool rfl Try.underlying4 rfl rfl) rfl rfl ?_
        refine V_next (fun _ => rfl) ?_
        refine T_cond rfl (fun hb => ?_) (fun hb => ?_)
        · cases hb
        exact T_skip fun w h => ⟨(B, E, .slice wa B.length wc, cs), ⟨by show B.length ≤ i + 1; omega, h4, h5⟩, ⟨rfl, rfl, rfl, rfl, trivial⟩, h.pick (by repeat (first | with_reducible exact Pick.nil | apply Pick.cons (by repeat (first | with_reducible exact Sel.head | apply Sel.tail)))) (by simp)⟩
      · refine T_seq (T_reg rfl ?_)
        refine V_q (q_fa rfl fd24_1 rfl) rfl rfl ?_
        refine V_q (q_ld rfl ty3 rfl (by repeat (first | with_reducible exact Sel.head | apply Sel.tail)) rfl) rfl rfl ?_
        refine V_q (q_fa rfl fd24_2 rfl) rfl rfl ?_
        refine V_q (q_ld rfl ty3 rfl (by repeat (first | with_reducible exact Sel.head | apply Sel.tail)) rfl) rfl rfl ?_
        refine V_q (q_fa rfl fd24_3 rfl) rfl rfl ?_
        refine V_q (q_ld rfl ty3 rfl (by repeat (first | with_reducible exact Sel.head | apply Sel.tail)) rfl) rfl rfl ?_
        refine V_l (l_bs [.int .i64 0] rfl Try.underlying27 ty3 tz3 (by decide) rfl rfl rfl (by repeat (first | exact FillL.nil | apply FillL.cons rfl rfl (by repeat (first | exact PutL.z | apply PutL.s | apply PutL.t))))) rfl rfl ?_; rintro g39 -
        refine V_q (q_fa rfl fd24_4 rfl) rfl rfl ?_
        refine V_q (q_ld rfl ty2 rfl (by repeat (first | with_reducible exact Sel.head | apply Sel.tail)) rfl) rfl rfl ?_
        refine V_l (l_bs [.int .i64 0] rfl Try.underlying37 ty2 tz2 (by decide) rfl rfl rfl (by repeat (first | exact FillL.nil | apply FillL.cons rfl rfl (by repeat (first | exact PutL.z | apply PutL.s | apply PutL.t))))) rfl rfl ?_; rintro g42 -
        refine V_q (q_buildS rfl pl39 tz39 rfl rfl (by repeat (first | exact FillL.nil | apply FillL.cons rfl rfl (by repeat (first | exact PutL.z | apply PutL.s | apply PutL.t))))) rfl rfl ?_
        refine V_q (q_buildS rfl pl41 tz41 rfl rfl (by repeat (first | exact FillL.nil | apply FillL.cons rfl rfl (by repeat (first | exact PutL.z | apply PutL.s | apply PutL.t))))) rfl rfl ?_
        refine V_l (l_alloc (cs := [.int .i64 0, .int .i64 0, .int .i64 0, .slice none 0 0, .slice none 0 0]) rfl tz41 rfl) rfl rfl ?_; rintro g10 -
        refine V_n (l_st rfl ty41 rfl rfl rfl rfl rfl (by repeat (first | with_reducible exact Put.head | apply Put.tail)) (by repeat (first | exact PutL.z | apply PutL.s | apply PutL.t))) rfl rfl ?_; rintro ⟨⟩ -
        refine V_next (fun _ => rfl) ?_
        refine T_ghost (fun w h => h.sealI (k := .i64) (n := 1) (cs := [.int .i64 1]) [1] (by repeat (first | with_reducible exact Sel.head | apply Sel.tail)) rfl rfl (by decide)) ?_
        refine T_ghost (fun w h => h.sealI (k := .i64) (n := 1) (cs := [.int .i64 x.n]) [x.n] (by repeat (first | with_reducible exact Sel.head | apply Sel.tail)) rfl rfl (by decide)) ?_
        have cp := c_Put g r B E x.fr x.to x.tag [1] [x.n] (some ⟨g39, 0, none⟩) (some ⟨g42, 0, none⟩) 1 1 1 1 (by omega) (by omega)
        simp only [hl, Option.isSome_none, Bool.not_false, bput_none hl] at cp
        refine T_seq ?_
        refine T_seq (T_reg rfl ?_)
        refine V_q (q_mov rfl rfl) rfl rfl ?_
        refine V_q (q_ldA rfl ty41 rfl (by repeat (first | with_reducible exact Sel.head | apply Sel.tail)) (by repeat (first | exact SubL.z | apply SubL.s | apply SubL.t))) rfl rfl ?_
        refine V_l (l_call rfl ent11 rfl (cp) (by repeat (first | with_reducible exact Pick.nil | apply Pick.cons (by repeat (first | with_reducible exact Sel.head | apply Sel.tail)))) (by repeat (first | with_reducible exact Ins.nil | refine Ins.cons (by repeat (first | with_reducible exact In.head | apply In.tail)) ?_)) (fun _ => (by repeat (first | with_reducible exact App.nil | apply App.cons))) (fun _ => (by repeat (first | with_reducible exact App.nil | apply App.cons)))) rfl rfl ?_; rintro E' -
        refine V_q (q_mov rfl rfl) rfl rfl ?_
        refine V_q (q_lt rfl rfl rfl) rfl rfl ?_
        refine V_q (q_neq_bool rfl Try.underlying4 rfl rfl) rfl rfl ?_
        refine V_next (fun _ => rfl) ?_
        refine T_cond rfl (fun hb => ?_) (fun hb => ?_)
        · cases hb
        refine T_skip_next (fun _ => rfl) ?_
        refine T_seq (T_reg rfl ?_)
        refine V_q (q_mov rfl rfl) rfl rfl ?_
        refine V_q (q_lt rfl rfl rfl) rfl rfl ?_
        refine V_next (fun _ => rfl) ?_
        refine T_cond rfl (fun hb => ?_) (fun hb => ?_)
        rotate_left
        · cases hb
        refine T_reg rfl ?_
        refine V_q (q_mov rfl rfl) rfl rfl ?_
        refine V_q (q_ldA rfl ty41 rfl (by repeat (first | with_reducible exact Sel.head | apply Sel.tail)) (by repeat (first | exact SubL.z | apply SubL.s | apply SubL.t))) rfl rfl ?_
        refine V_l (l_bs [.int .i64 0, .int .i64 0, .int .i64 0, .slice none 0 0, .slice none 0 0] rfl Try.underlying43 ty41 tz41 (by decide) rfl rfl rfl (by repeat (first | exact FillL.nil | apply FillL.cons rfl rfl (by repeat (first | exact PutL.z | apply PutL.s | apply PutL.t))))) rfl rfl ?_; rintro g55 -
        refine V_l (l_appB rfl Try.underlying43 ty41 tz41 tb41 rfl (by decide) rfl rfl (by repeat (first | with_reducible exact Sel.head | apply Sel.tail)) (fun _ => (by repeat (first | with_reducible exact Put.head | apply Put.tail))) rfl rfl (by simp [maxLen]; omega) (by simp; omega)) rfl rfl ?_; rintro v56 -
        refine V_q (q_asg rfl rfl) rfl rfl ?_
        refine V_nil ?_
        intro w h
        have e : (B ++ [((x.fr, x.to, x.tag), (⟨[1], [x.n]⟩ : Tn))]).length = B.length + 1 := by simp
        have h6 := h.know (aEv rMsg ((B ++ [((x.fr, x.to, x.tag), (⟨[1], [x.n]⟩ : Tn))]).map toMsg) (cs ++ [Value.int .i64 x.fr, Value.int .i64 x.to, Value.int .i64 x.tag, Value.slice (some ⟨g39, 0, none⟩) 1 1, Value.slice (some ⟨g42, 0, none⟩) 1 1])) (by
          rw [List.map_append]
          exact EvP.snoc (show EvP rMsg _ _ _ _ from h.atom (A := aEv rMsg (B.map toMsg) cs) (by repeat (first | with_reducible exact In.head | apply In.tail))) ⟨some ⟨g39, 0, none⟩, 1, 1, some ⟨g42, 0, none⟩, 1, 1, rfl, h.atom (A := aSl I [1] (some ⟨g39, 0, none⟩) 1 1) (by repeat (first | with_reducible exact In.head | apply In.tail)), h.atom (A := aSl I [x.n] (some ⟨g42, 0, none⟩) 1 1) (by repeat (first | with_reducible exact In.head | apply In.tail))⟩)
        refine ⟨(B ++ [((x.fr, x.to, x.tag), ⟨[1], [x.n]⟩)], E', v56, cs ++ [.int .i64 x.fr, .int .i64 x.to, .int .i64 x.tag, .slice (some ⟨g39, 0, none⟩) 1 1, .slice (some ⟨g42, 0, none⟩) 1 1]), ⟨by rw [e]; omega, keys_put h4 hl, fun p hp => ?_⟩, ⟨rfl, rfl, rfl, rfl, trivial⟩, ?_⟩
        · rcases List.mem_append.1 hp with hp | hp
          · exact h5 p hp
          · have : p = ((x.fr, x.to, x.tag), ⟨[1], [x.n]⟩) := by simpa using hp
            rw [this]
            exact ⟨by simp, by simp⟩
        · simp only [e]
          exact h6.pick (by repeat (first | with_reducible exact Pick.nil | apply Pick.cons (by repeat (first | with_reducible exact Sel.head | apply Sel.tail)))) (by simp)
  · rw [hf]
    refine T_seq (T_reg rfl ?_)
    refine V_q (q_fa rfl fd24_0 rfl) rfl rfl ?_
    refine V_q (q_ld rfl ty3 rfl (by repeat (first | with_reducible exact Sel.head | apply Sel.tail)) rfl) rfl rfl ?_
    refine V_next (fun _ => rfl) ?_
    refine T_block ?_
    refine T_seq (T_reg rfl ?_)
    refine V_q (q_eq rfl rfl rfl) rfl rfl ?_
    refine V_q (q_asg rfl rfl) rfl rfl ?_
    refine V_next (fun _ => rfl) ?_
    refine T_cond rfl (fun hb => ?_) (fun hb => ?_)
    · have ct := c_Take g r B E x.fr x.to x.tag
      simp only [hl, Option.isSome_some, Option.getD_some] at ct
      refine T_seq (T_reg rfl ?_)
      refine V_q (q_mov rfl rfl) rfl rfl ?_
      refine V_q (q_fa rfl fd24_1 rfl) rfl rfl ?_
      refine V_q (q_ld rfl ty3 rfl (by repeat (first | with_reducible exact Sel.head | apply Sel.tail)) rfl) rfl rfl ?_
      refine V_q (q_fa rfl fd24_2 rfl) rfl rfl ?_
      refine V_q (q_ld rfl ty3 rfl (by repeat (first | with_reducible exact Sel.head | apply Sel.tail)) rfl) rfl rfl ?_
      refine V_q (q_fa rfl fd24_3 rfl) rfl rfl ?_
      refine V_q (q_ld rfl ty3 rfl (by repeat (first | with_reducible exact Sel.head | apply Sel.tail)) rfl) rfl rfl ?_
      refine V_l (l_call rfl ent15 rfl (ct) (by repeat (first | with_reducible exact Pick.nil | apply Pick.cons (by repeat (first | with_reducible exact Sel.head | apply Sel.tail)))) (by repeat (first | with_reducible exact Ins.nil | refine Ins.cons (by repeat (first | with_reducible exact In.head | apply In.tail)) ?_)) (fun _ => (by repeat (first | with_reducible exact App.nil | apply App.cons))) (fun _ => (by repeat (first | with_reducible exact App.nil | apply App.cons)))) rfl rfl ?_; rintro ⟨⟨pa, pn, pc⟩, ⟨qa, qn, qc⟩⟩ -
      refine V_q (q_mov rfl rfl) rfl rfl ?_
      refine V_q (q_ext rfl rfl rfl) rfl rfl ?_
      refine V_q (q_ext rfl rfl rfl) rfl rfl ?_
      refine V_l (l_alloc (cs := [.slice none 0 0, .slice none 0 0]) rfl tz39 rfl) rfl rfl ?_; rintro g8 -
      refine V_n (l_st rfl ty39 rfl rfl rfl rfl rfl (by repeat (first | with_reducible exact Put.head | apply Put.tail)) (by repeat (first | exact PutL.z | apply PutL.s | apply PutL.t))) rfl rfl ?_; rintro ⟨⟩ -
      refine V_q (q_asg rfl rfl) rfl rfl ?_
      refine V_next (fun _ => rfl) ?_
      refine T_lend rMsg (k := 5) rfl (by decide) (xs := B.map toMsg) (by repeat (first | with_reducible exact Sel.head | apply Sel.tail)) (by repeat (first | with_reducible exact In.head | apply In.tail)) fun C2 wa' wc' hv hret hdrop => ?_
      injection hv with e1 e2 e3
      subst e1; subst e3
      refine T_seq ?_
      refine T_msg j (xs := B.map toMsg) (a := wa) (by repeat (first | with_reducible exact In.head | apply In.tail)) hj fun y bd ra rn rc sa' sn sc hy hbd => ?_
      rw [hjm] at hy
      injection hy with hy
      subst hy
      have csm := c_Same t.sh t.da t.sh t.da pa qa ra sa' pn pc qn qc rn rc sn sc
      simp only [and_self, decide_true] at csm
      refine T_seq (T_drawn hmix (.pure 0 <| .pure 1 <| .pure 2 <| .pure 3 <| .pure 4 <| .pure 5 <| .pure 6 <| .quiet 7 <| .pure 8 <| .pure 9 <| .pure 10 <| .pure 11 <| .quiet 12 <| .bar 13 <| .pure 14 <| .pure 15 <| .pure 16 <| .pure 17 <| .pure 18 <| .pure 19 <| .pure 20 <| .pure 21 <| .quiet 22 <| .pure 23 <| .pure 24 <| .pure 25 <| .pure 26 <| .fin) (by decide +kernel) ?_)
      refine W_p rfl (q_mov rfl rfl) rfl rfl ?_
      refine W_p rfl (q_mov rfl rfl) rfl rfl ?_
      refine W_p rfl (Qu.eq (Y := .bool true) (q_ge rfl rfl rfl) (congrArg Value.bool (decide_eq_true (Int.natCast_nonneg j)))) rfl rfl ?_
      refine W_p rfl (q_neq_bool rfl Try.underlying4 rfl rfl) rfl rfl ?_
      refine W_p rfl (q_mov rfl rfl) rfl rfl ?_
      refine W_p rfl (q_mov rfl rfl) rfl rfl ?_
      refine W_p rfl (q_mov rfl rfl) rfl rfl ?_
      refine W_ldA rfl rfl ty39 rfl (by repeat (first | with_reducible exact Sel.head | apply Sel.tail)) (by repeat (first | exact SubL.z | apply SubL.s | apply SubL.t)) rfl rfl ?_
      refine W_p rfl (q_mov rfl rfl) rfl rfl ?_
      refine W_p rfl (q_mov rfl rfl) rfl rfl ?_
      refine W_p rfl (q_iaE rfl Try.underlying43 ty41 rfl rfl (by omega) (by assumption)) rfl rfl ?_
      refine W_p rfl (q_faR rfl fd41_3 rfl) rfl rfl ?_
      refine W_a rfl (q_ldRS rfl ty39 rfl (by repeat (first | with_reducible exact In.head | apply In.tail)) (by repeat (first | exact SubL.z | apply SubL.s | apply SubL.t))) rfl rfl ?_
      refine W_b rfl (l_call rfl ent18 rfl (csm) (by repeat (first | with_reducible exact Pick.nil | apply Pick.cons (by repeat (first | with_reducible exact Sel.head | apply Sel.tail)))) (by repeat (first | with_reducible exact Ins.nil | refine Ins.cons (by repeat (first | with_reducible exact In.head | apply In.tail)) ?_)) (fun _ => (by repeat (first | with_reducible exact App.nil | apply App.cons))) (fun _ => (by repeat (first | with_reducible exact App.nil | apply App.cons)))) rfl rfl ?_; rintro g83 -
      refine W_p rfl (q_not rfl rfl) rfl rfl ?_
      refine W_p rfl (q_pick rfl rfl rfl rfl) rfl rfl ?_
      refine W_p rfl (q_pick rfl rfl rfl rfl) rfl rfl ?_
      refine W_p rfl (q_mov rfl rfl) rfl rfl ?_
      refine W_p rfl (q_mov rfl rfl) rfl rfl ?_
      refine W_p rfl (q_not rfl rfl) rfl rfl ?_
      refine W_p rfl (q_mov rfl rfl) rfl rfl ?_
      refine W_pskip rfl rfl rfl ?_
      refine W_quietskip rfl rfl rfl ?_
      refine W_pskip rfl rfl rfl ?_
      refine W_pskip rfl rfl rfl ?_
      refine W_p rfl (q_pick rfl rfl rfl rfl) rfl rfl ?_
      refine W_p rfl (q_pick rfl rfl rfl rfl) rfl rfl ?_
      refine W_next (fun _ => rfl) ?_
      refine T_cond rfl (fun hb => ?_) (fun hb => ?_)
      · cases hb
      refine T_skip_next (fun _ => rfl) ?_
      refine T_seq (T_reg rfl ?_)
      refine V_q (q_mov rfl rfl) rfl rfl ?_
      refine V_next (fun _ => rfl) ?_
      refine T_cond rfl (fun hb => ?_) (fun hb => ?_)
      rotate_left
      · cases hb
      refine T_pure (φ := B.length ≤ wc) (fun w h => (sl_len h (xs := B.map toMsg) (a := wa) (by repeat (first | with_reducible exact In.head | apply In.tail))).2.1) (fun hwc => ?_)
      refine T_ghost (fun w h => h.take (xs := B.map toMsg) (a := wa) (j := j) (by repeat (first | with_reducible exact In.head | apply In.tail)) (by omega)) ?_
      refine T_ghost (fun w h => (show St C2 _ (aSl rMsg ((B.map toMsg).drop (j + 1)) (sa wa wc (j + 1) 5) (B.length - (j + 1)) (wc - (j + 1)) :: _) w from h.drop (xs := B.map toMsg) (a := wa) (j := j + 1) (by repeat (first | with_reducible exact In.head | apply In.tail)) (by omega))) ?_
      refine T_drawn hmix (.pure 1 <| .pure 2 <| .pure 3 <| .pure 5 <| .pure 6 <| .pure 7 <| .pure 8 <| .bar 0 <| .bar 4 <| .bar 9 <| .pure 10 <| .fin) (by decide +kernel) ?_
      refine W_p rfl (q_mov rfl rfl) rfl rfl ?_
      refine W_p rfl (q_mov rfl rfl) rfl rfl ?_
      refine W_p rfl (q_slH rfl Try.underlying43 ty41 rfl rfl (by omega)) rfl rfl ?_
      refine W_p rfl (q_mov rfl rfl) rfl rfl ?_
      refine W_p rfl (q_mov rfl rfl) rfl rfl ?_
      refine W_p rfl (q_addE ((j + 1 : Nat) : Int) rfl rfl rfl (by omega) (by omega)) rfl rfl ?_
      refine W_p rfl (q_slL rfl Try.underlying43 ty41 rfl rfl (by omega)) rfl rfl ?_
      refine W_b rfl (l_bsO [] rfl Try.underlying43 ty41 tz41 (by decide) rfl rfl rfl (by repeat (first | exact FillL.nil | apply FillL.cons rfl rfl (by repeat (first | exact PutL.z | apply PutL.s | apply PutL.t)))) rfl (by decide)) rfl rfl ?_; rintro g98 -
      refine W_b rfl (l_appS rMsg rfl Try.underlying43 ty41 tz41 tb41 rfl rfl (by decide) rfl rfl (xs := (B.map toMsg).take j) (by repeat (first | with_reducible exact In.head | apply In.tail)) (fun _ _ => (by repeat (first | with_reducible exact Put.head | apply Put.tail))) (by unfold maxLen; omega) (by omega)) rfl rfl ?_; rintro ⟨news, v102⟩ -
      refine W_b rfl (l_appS rMsg rfl Try.underlying43 ty41 tz41 tb41 rfl rfl (by decide) rfl rfl (xs := (B.map toMsg).drop (j + 1)) (by repeat (first | with_reducible exact In.head | apply In.tail)) (fun _ _ => (by repeat (first | with_reducible exact Put.head | apply Put.tail))) (by unfold maxLen; omega) (by omega)) rfl rfl ?_; rintro ⟨news', v107⟩ -
      refine W_p rfl (q_asg rfl rfl) rfl rfl ?_
      refine W_fin ?_
      intro w h
      have hlen : (delE B (x.fr, x.to, x.tag)).length = 0 + j + (B.length - (j + 1)) := by
        have := congrArg List.length hdel
        simp at this
        omega
      have h6 := h.know (aEv rMsg ((B.map toMsg).take j ++ (B.map toMsg).drop (j + 1)) ([] ++ news ++ news'))
        (show EvP rMsg _ _ _ ([] ++ news ++ news') from by
          rw [List.nil_append]
          exact (show EvP rMsg _ _ _ _ from h.atom (A := aEv rMsg ((B.map toMsg).take j) news) (by repeat (first | with_reducible exact In.head | apply In.tail))).app (show EvP rMsg _ _ _ _ from h.atom (A := aEv rMsg ((B.map toMsg).drop (j + 1)) news') (by repeat (first | with_reducible exact In.head | apply In.tail))))
      rw [← hdel] at h6
      refine ⟨(delE B (x.fr, x.to, x.tag), delE E (x.fr, x.to, x.tag), v107, [] ++ news ++ news'), ⟨by show (delE B (x.fr, x.to, x.tag)).length ≤ i + 1; omega, keys_del _ h4, fun p hp => h5 p (mem_del hp)⟩, ⟨rfl, rfl, rfl, rfl, trivial⟩, ?_⟩
      simp only [hlen]
      exact (hdrop _ _ _ h6).pick (by repeat (first | with_reducible exact Pick.nil | apply Pick.cons (by repeat (first | with_reducible exact Sel.head | apply Sel.tail)))) (by simp)
    · refine T_seq (T_reg rfl ?_)
      refine V_q (q_eq rfl rfl rfl) rfl rfl ?_
      refine V_q (q_asg rfl rfl) rfl rfl ?_
      refine V_next (fun _ => rfl) ?_
      refine T_cond rfl (fun hb => ?_) (fun hb => ?_)
      · have ch := c_Has g r B E x.fr x.to x.tag
        simp only [hl, Option.isSome_some] at ch
        refine T_seq (T_reg rfl ?_)
        refine V_q (q_mov rfl rfl) rfl rfl ?_
        refine V_q (q_fa rfl fd24_1 rfl) rfl rfl ?_
        refine V_q (q_ld rfl ty3 rfl (by repeat (first | with_reducible exact Sel.head | apply Sel.tail)) rfl) rfl rfl ?_
        refine V_q (q_fa rfl fd24_2 rfl) rfl rfl ?_
        refine V_q (q_ld rfl ty3 rfl (by repeat (first | with_reducible exact Sel.head | apply Sel.tail)) rfl) rfl rfl ?_
        refine V_q (q_fa rfl fd24_3 rfl) rfl rfl ?_
        refine V_q (q_ld rfl ty3 rfl (by repeat (first | with_reducible exact Sel.head | apply Sel.tail)) rfl) rfl rfl ?_
        refine V_l (l_call rfl ent16 rfl (ch) (by repeat (first | with_reducible exact Pick.nil | apply Pick.cons (by repeat (first | with_reducible exact Sel.head | apply Sel.tail)))) (by repeat (first | with_reducible exact Ins.nil | refine Ins.cons (by repeat (first | with_reducible exact In.head | apply In.tail)) ?_)) (fun _ => (by repeat (first | with_reducible exact App.nil | apply App.cons))) (fun _ => (by repeat (first | with_reducible exact App.nil | apply App.cons)))) rfl rfl ?_; rintro g117 -
        refine V_q (q_mov rfl rfl) rfl rfl ?_
        refine V_q (Qu.eq (Y := .bool true) (q_ge rfl rfl rfl) (congrArg Value.bool (decide_eq_true (Int.natCast_nonneg j)))) rfl rfl ?_
        refine V_q (q_neq_bool rfl Try.underlying4 rfl rfl) rfl rfl ?_
        refine V_next (fun _ => rfl) ?_
        refine T_cond rfl (fun hb => ?_) (fun hb => ?_)
        · cases hb
        exact T_skip fun w h => ⟨(B, E, .slice wa B.length wc, cs), ⟨by show B.length ≤ i + 1; omega, h4, h5⟩, ⟨rfl, rfl, rfl, rfl, trivial⟩, h.pick (by repeat (first | with_reducible exact Pick.nil | apply Pick.cons (by repeat (first | with_reducible exact Sel.head | apply Sel.tail)))) (by simp)⟩
      · refine T_seq (T_reg rfl ?_)
        refine V_q (q_fa rfl fd24_1 rfl) rfl rfl ?_
        refine V_q (q_ld rfl ty3 rfl (by repeat (first | with_reducible exact Sel.head | apply Sel.tail)) rfl) rfl rfl ?_
        refine V_q (q_fa rfl fd24_2 rfl) rfl rfl ?_
        refine V_q (q_ld rfl ty3 rfl (by repeat (first | with_reducible exact Sel.head | apply Sel.tail)) rfl) rfl rfl ?_
        refine V_q (q_fa rfl fd24_3 rfl) rfl rfl ?_
        refine V_q (q_ld rfl ty3 rfl (by repeat (first | with_reducible exact Sel.head | apply Sel.tail)) rfl) rfl rfl ?_
        refine V_l (l_bs [.int .i64 0] rfl Try.underlying27 ty3 tz3 (by decide) rfl rfl rfl (by repeat (first | exact FillL.nil | apply FillL.cons rfl rfl (by repeat (first | exact PutL.z | apply PutL.s | apply PutL.t))))) rfl rfl ?_; rintro g39 -
        refine V_q (q_fa rfl fd24_4 rfl) rfl rfl ?_
        refine V_q (q_ld rfl ty2 rfl (by repeat (first | with_reducible exact Sel.head | apply Sel.tail)) rfl) rfl rfl ?_
        refine V_l (l_bs [.int .i64 0] rfl Try.underlying37 ty2 tz2 (by decide) rfl rfl rfl (by repeat (first | exact FillL.nil | apply FillL.cons rfl rfl (by repeat (first | exact PutL.z | apply PutL.s | apply PutL.t))))) rfl rfl ?_; rintro g42 -
        refine V_q (q_buildS rfl pl39 tz39 rfl rfl (by repeat (first | exact FillL.nil | apply FillL.cons rfl rfl (by repeat (first | exact PutL.z | apply PutL.s | apply PutL.t))))) rfl rfl ?_
        refine V_q (q_buildS rfl pl41 tz41 rfl rfl (by repeat (first | exact FillL.nil | apply FillL.cons rfl rfl (by repeat (first | exact PutL.z | apply PutL.s | apply PutL.t))))) rfl rfl ?_
        refine V_l (l_alloc (cs := [.int .i64 0, .int .i64 0, .int .i64 0, .slice none 0 0, .slice none 0 0]) rfl tz41 rfl) rfl rfl ?_; rintro g10 -
        refine V_n (l_st rfl ty41 rfl rfl rfl rfl rfl (by repeat (first | with_reducible exact Put.head | apply Put.tail)) (by repeat (first | exact PutL.z | apply PutL.s | apply PutL.t))) rfl rfl ?_; rintro ⟨⟩ -
        refine V_next (fun _ => rfl) ?_
        refine T_ghost (fun w h => h.sealI (k := .i64) (n := 1) (cs := [.int .i64 1]) [1] (by repeat (first | with_reducible exact Sel.head | apply Sel.tail)) rfl rfl (by decide)) ?_
        refine T_ghost (fun w h => h.sealI (k := .i64) (n := 1) (cs := [.int .i64 x.n]) [x.n] (by repeat (first | with_reducible exact Sel.head | apply Sel.tail)) rfl rfl (by decide)) ?_
        have cp := c_Put g r B E x.fr x.to x.tag [1] [x.n] (some ⟨g39, 0, none⟩) (some ⟨g42, 0, none⟩) 1 1 1 1 (by omega) (by omega)
        simp only [hl, Option.isSome_some, Bool.not_true, bput_some hl] at cp
        refine T_seq ?_
        refine T_seq (T_reg rfl ?_)
        refine V_q (q_mov rfl rfl) rfl rfl ?_
        refine V_q (q_ldA rfl ty41 rfl (by repeat (first | with_reducible exact Sel.head | apply Sel.tail)) (by repeat (first | exact SubL.z | apply SubL.s | apply SubL.t))) rfl rfl ?_
        refine V_l (l_call rfl ent11 rfl (cp) (by repeat (first | with_reducible exact Pick.nil | apply Pick.cons (by repeat (first | with_reducible exact Sel.head | apply Sel.tail)))) (by repeat (first | with_reducible exact Ins.nil | refine Ins.cons (by repeat (first | with_reducible exact In.head | apply In.tail)) ?_)) (fun _ => (by repeat (first | with_reducible exact App.nil | apply App.cons))) (fun _ => (by repeat (first | with_reducible exact App.nil | apply App.cons)))) rfl rfl ?_; rintro E' -
        refine V_q (q_mov rfl rfl) rfl rfl ?_
        refine V_q (Qu.eq (Y := .bool false) (q_lt rfl rfl rfl) (congrArg Value.bool (decide_eq_false (by omega)))) rfl rfl ?_
        refine V_q (q_neq_bool rfl Try.underlying4 rfl rfl) rfl rfl ?_
        refine V_next (fun _ => rfl) ?_
        refine T_cond rfl (fun hb => ?_) (fun hb => ?_)
        · cases hb
        refine T_skip_next (fun _ => rfl) ?_
        refine T_seq (T_reg rfl ?_)
        refine V_q (q_mov rfl rfl) rfl rfl ?_
        refine V_q (Qu.eq (Y := .bool false) (q_lt rfl rfl rfl) (congrArg Value.bool (decide_eq_false (by omega)))) rfl rfl ?_
        refine V_next (fun _ => rfl) ?_
        refine T_cond rfl (fun hb => ?_) (fun hb => ?_)
        · cases hb
        exact T_skip fun w h => ⟨(B, E', .slice wa B.length wc, cs), ⟨by show B.length ≤ i + 1; omega, h4, h5⟩, ⟨rfl, rfl, rfl, rfl, trivial⟩, h.pick (by repeat (first | with_reducible exact Pick.nil | apply Pick.cons (by repeat (first | with_reducible exact Sel.head | apply Sel.tail)))) (by simp)⟩
end Go.Proofs.Ytgbhegmhbeekpaa
