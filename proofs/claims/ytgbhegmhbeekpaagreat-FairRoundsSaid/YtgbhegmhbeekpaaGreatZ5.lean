/-
  Rows of rows that stay.
-/
import Derived.Test.YtgbhegmhbeekpaaGreatZ4
namespace Go.Proofs.YtgbhegmhbeekpaaGreat
open Go
set_option maxRecDepth 100000

section
variable {P : Program} {nn : Nat} {l : LEnv} {C : Ctx} {own : List Res} {ats : List Atom} {Q : Exit → LEnv → World → Prop}
/-- an element that is a slice itself -/
theorem T_sl {α : Type} {R : Rep α} {cd : Code} {xs : List (List α)} {a : Option Addr} {n c : Nat} (i : Nat) (hs : In (aSl (rSl R) xs a n c) ats) (hi : i < n)
    (h : ∀ x ad b m d, xs[i]? = some x → ea a i 1 = some ad → m = x.length → T P nn cd l C own (aCells ad [.slice b m d] :: aSl R x b m d :: ats) Q) : T P nn cd l C own ats Q := by
  intro w hw
  have h1 : SlP (rSl R) _ _ _ _ _ _ := hw.atom hs
  have hx : i < xs.length := by have := h1.1; omega
  obtain ⟨ad, cs, e1, e2, b, m, d, e3, e4⟩ := h1.el hi hx
  subst e3
  exact h xs[i] ad b m d (List.getElem?_eq_getElem hx) e1 e4.1 w ((hw.know (aSl R xs[i] b m d) e4).know (aCells ad _) e2)
end

def sames (sh : List (List Int)) (s : List Int) (i : Nat) : List Int := ((List.range i).filter fun (j : Nat) => decide (sh[j]? = some s)).map fun (j : Nat) => (j : Int)
theorem sames_succ (sh : List (List Int)) (s : List Int) (i : Nat) : sames sh s (i + 1) = if sh[i]? = some s then sames sh s i ++ [(i : Int)] else sames sh s i := by
  unfold sames
  rw [List.range_succ, List.filter_append, List.map_append]
  by_cases h : sh[i]? = some s <;> simp [h]
theorem sames_len (sh : List (List Int)) (s : List Int) (i : Nat) : (sames sh s i).length ≤ i := by
  unfold sames
  rw [List.length_map]
  have h := List.length_filter_le (fun (j : Nat) => decide (sh[j]? = some s)) (List.range i)
  rw [List.length_range] at h
  exact h

theorem c_keepsame (sh : List (List Int)) (s : List Int) (a b : Option Addr) (n c m d : Nat) (hby : n * 8 ≤ 140737488355328) : Con Tryz.prog 83 #[.slice a n c, .slice b m d] [] [aSl (rSl I) sh a n c, aSl I s b m d]
    (fun _ : Option Addr × Nat => True) (fun y => .slice y.1 (sames sh s n).length y.2) (fun y => [rOwn 3 1 (.slice y.1 (sames sh s n).length y.2) (sames sh s n).length ((sames sh s n).map (.int .i64))]) (fun _ => []) := by
  refine con_of (n := 24) Tryz.func83 rfl rfl rfl (by simp) ?_
  intro C hC
  refine T_pure (φ := n = sh.length) (fun w h => (sl_len h (xs := sh) (a := a) (by repeat (first | with_reducible exact In.head | apply In.tail))).1) (fun hn => ?_)
  refine T_seq (T_reg rfl ?_)
  refine V_q (q_asg rfl rfl) rfl rfl ?_
  refine V_next (fun _ => rfl) ?_
  refine T_seq (T_reg rfl ?_)
  refine V_q (q_asg rfl rfl) rfl rfl ?_
  refine V_next (fun _ => rfl) ?_
  refine T_ghost (fun w h => h.rowNil 3 1) ?_
  refine T_seq ?_
  refine T_seq (T_reg rfl ?_)
  refine V_q (q_mov rfl rfl) rfl rfl ?_
  refine V_q (q_len rfl Tryz.underlying86 rfl) rfl rfl ?_
  refine V_q (q_mov rfl rfl) rfl rfl ?_
  refine V_next (fun _ => rfl) ?_
  refine T_block ?_
  refine T_loop (fun y : Nat × Value => [(0, .slice a n c), (1, .slice b m d), (8, .int .i64 n), (9, .int .i64 y.1), (5, y.2)]) (fun y => [rOwn 3 1 y.2 (sames sh s y.1).length ((sames sh s y.1).map (.int .i64))]) (fun _ => [aSl (rSl I) sh a n c, aSl I s b m d])
    (fun y => y.1 ≤ n) (fun y => n - y.1) (0, .slice none 0 0) (Nat.zero_le _) ⟨rfl, rfl, rfl, rfl, rfl, trivial⟩ (fun w h => h) ?_
  rintro ⟨i, v⟩ hi
  replace hi : i ≤ n := hi
  refine T_seq (T_reg rfl ?_)
  refine V_q (q_lt rfl rfl rfl) rfl rfl ?_
  refine V_next (fun _ => rfl) ?_
  refine T_seq ?_
  refine T_cond rfl (fun hb => ?_) (fun hb => ?_)
  rotate_left
  · have hi' : i = n := by
      have : ¬ (i : Int) < n := by simpa using hb
      omega
    subst hi'
    refine T_exit_next (fun _ => rfl) ?_
    refine T_slice (e := 3) (k := 1) (v := v) (n := (sames sh s i).length) (cs := (sames sh s i).map (.int .i64)) (by repeat (first | with_reducible exact Sel.head | apply Sel.tail)) fun a' c' hv => ?_
    subst hv
    refine T_seq (T_reg rfl ?_)
    refine V_q (q_mov rfl rfl) rfl rfl ?_
    refine V_q (q_asg rfl rfl) rfl rfl ?_
    refine V_next (fun _ => rfl) ?_
    exact T_ret fun w h => ⟨_, res_1 rfl, (a', c'), trivial, rfl, h.weak (List.Sublist.refl _) (by simp)⟩
  have hin : i < n := by
    have : (i : Int) < n := by simpa using hb
    omega
  clear hb
  refine T_skip_next (fun _ => rfl) ?_
  refine T_cut (fun y : Value => [(0, .slice a n c), (1, .slice b m d), (8, .int .i64 n), (9, .int .i64 i), (5, y)]) (fun y => [rOwn 3 1 y (sames sh s (i + 1)).length ((sames sh s (i + 1)).map (.int .i64))]) (fun _ => [aSl (rSl I) sh a n c, aSl I s b m d]) (fun _ => True) ?_ ?_
  · refine T_block ?_
    refine T_seq (T_reg rfl ?_)
    refine V_q (q_mov rfl rfl) rfl rfl ?_
    refine V_q (q_asg rfl rfl) rfl rfl ?_
    refine V_next (fun _ => rfl) ?_
    refine T_sl i (xs := sh) (a := a) (by repeat (first | with_reducible exact In.head | apply In.tail)) hin fun x ad b' m' d' hx had hm' => ?_
    refine T_seq (T_reg rfl ?_)
    refine V_q (q_mov rfl rfl) rfl rfl ?_
    refine V_q (q_mov rfl rfl) rfl rfl ?_
    refine V_q (q_iaE rfl Tryz.underlying86 ty22 rfl rfl hin had) rfl rfl ?_
    refine V_q (q_ldR0 rfl ty22 rfl (by repeat (first | with_reducible exact In.head | apply In.tail))) rfl rfl ?_
    refine V_q (q_mov rfl rfl) rfl rfl ?_
    refine V_l (l_call rfl ent64 rfl (c_Ints x s b' b m' m d' d) (by repeat (first | with_reducible exact Pick.nil | apply Pick.cons (by repeat (first | with_reducible exact Sel.head | apply Sel.tail)))) (by repeat (first | with_reducible exact Ins.nil | refine Ins.cons (by repeat (first | with_reducible exact In.head | apply In.tail)) ?_)) (fun _ => (by repeat (first | with_reducible exact App.nil | apply App.cons))) (fun _ => (by repeat (first | with_reducible exact App.nil | apply App.cons)))) rfl rfl ?_; rintro g17 -
    refine V_next (fun _ => rfl) ?_
    have hl := sames_len sh s i
    refine T_cond rfl (fun hb => ?_) (fun hb => ?_)
    · have e : sames sh s (i + 1) = sames sh s i ++ [(i : Int)] := by
        have : x = s := by simpa using hb
        rw [sames_succ, hx, this, if_pos rfl]
      refine T_reg rfl ?_
      refine V_q (q_mov rfl rfl) rfl rfl ?_
      refine V_q (q_mov rfl rfl) rfl rfl ?_
      refine V_l (l_bs [.int .i64 0] rfl Tryz.underlying22 ty3 tz3 (by decide) rfl rfl rfl (by repeat (first | exact FillL.nil | apply FillL.cons rfl rfl (by repeat (first | exact PutL.z | apply PutL.s | apply PutL.t))))) rfl rfl ?_; rintro g20 -
      refine V_l (l_appB rfl Tryz.underlying22 ty3 tz3 tb3 rfl (by decide) rfl rfl (by repeat (first | with_reducible exact Sel.head | apply Sel.tail)) (fun _ => (by repeat (first | with_reducible exact Put.head | apply Put.tail))) rfl rfl (by simp [maxLen]; omega) (by simp; omega)) rfl rfl ?_; rintro v21 -
      refine V_q (q_asg rfl rfl) rfl rfl ?_
      refine V_nil ?_
      intro w h
      refine ⟨v21, trivial, ⟨rfl, rfl, rfl, rfl, rfl, trivial⟩, ?_⟩
      show St C [rOwn 3 1 v21 (sames sh s (i + 1)).length ((sames sh s (i + 1)).map (.int .i64))] _ _
      rw [e, List.length_append, List.map_append]
      show St C [rOwn 3 1 v21 ((sames sh s i).length + 1) ((sames sh s i).map (.int .i64) ++ [.int .i64 i])] _ _
      exact h.pick (by repeat (first | with_reducible exact Pick.nil | apply Pick.cons (by repeat (first | with_reducible exact Sel.head | apply Sel.tail)))) (by simp)
    · have e : sames sh s (i + 1) = sames sh s i := by
        have : ¬ x = s := by simpa using hb
        rw [sames_succ, hx, if_neg (by simpa using this)]
      refine T_skip fun w h => ⟨v, trivial, ⟨rfl, rfl, rfl, rfl, rfl, trivial⟩, ?_⟩
      show St C [rOwn 3 1 v (sames sh s (i + 1)).length ((sames sh s (i + 1)).map (.int .i64))] _ _
      rw [e]
      exact h.pick (by repeat (first | with_reducible exact Pick.nil | apply Pick.cons (by repeat (first | with_reducible exact Sel.head | apply Sel.tail)))) (by simp)
  rintro v' -
  refine T_reg rfl ?_
  refine V_q (q_addI rfl rfl rfl (by omega)) rfl rfl ?_
  refine V_q (q_mov rfl rfl) rfl rfl ?_
  refine V_nil ?_
  exact fun w h => ⟨(i + 1, v'), ⟨by show n - (i + 1) < n - i; omega, by show i + 1 ≤ n; omega⟩, ⟨rfl, rfl, rfl, rfl, rfl, trivial⟩, h⟩
end Go.Proofs.YtgbhegmhbeekpaaGreat
