/-
  BagOrders' own code.
-/
import Derived.Test.YtgbhegmhbeekpaaB13
namespace Go.Proofs.Ytgbhegmhbeekpaa
open Go

def kOf (i : Int) : Key3 := (i.tmod 3, i.tmod 2, i)
def en (i : Nat) : Key3 × Tn := (kOf i, ⟨[], [(i : Int)]⟩)

theorem lk_en (l : List Nat) (i : Nat) : lkE (l.map en) (kOf i) = if i ∈ l then some ⟨[], [(i : Int)]⟩ else none := by
  induction l with
  | nil => rfl
  | cons j l ih =>
    rw [List.map_cons, en, lkE_cons]
    by_cases e : j = i
    · subst e; simp
    · have h1 : ¬ kOf (j : Int) = kOf (i : Int) := fun h => e (by
        have := congrArg (fun k : Key3 => k.2.2) h
        simp only [kOf] at this
        omega)
      rw [if_neg h1, ih]
      have h2 : ¬ i = j := fun h => e h.symm
      simp [h2]
theorem lk_in {l : List Nat} {i : Nat} (h : i ∈ l) : lkE (l.map en) (kOf i) = some ⟨[], [(i : Int)]⟩ := by rw [lk_en, if_pos h]
theorem lk_out {l : List Nat} {i : Nat} (h : i ∉ l) : lkE (l.map en) (kOf i) = none := by rw [lk_en, if_neg h]
theorem put_en {l : List Nat} {i : Nat} (h : i ∉ l) : bput (l.map en) (kOf i) ⟨[], [(i : Int)]⟩ = (l ++ [i]).map en := by
  rw [bput_none (lk_out h), List.map_append]; rfl
theorem keys_en {l : List Nat} (h : l.Nodup) : ((l.map en).map (·.1)).Nodup := by
  rw [List.map_map]
  refine List.pairwise_map.2 (h.imp fun hne he => hne ?_)
  have := congrArg (fun k : Key3 => k.2.2) he
  simp only [Function.comp_apply, en, kOf] at this
  omega
theorem del_en {l : List Nat} {i : Nat} (h : i ∉ l) : delE ((i :: l).map en) (kOf i) = l.map en := by
  have h1 : delE (l.map en) (kOf i) = l.map en := delE_none (lk_out h)
  unfold delE at h1 ⊢
  rw [List.map_cons, List.filter_cons_of_neg (by simp [en])]
  exact h1
theorem small_en (l : List Nat) : ∀ p ∈ l.map en, SmT p.2 := by
  intro p hp
  obtain ⟨i, _, rfl⟩ := List.mem_map.1 hp
  exact ⟨by simp [en], by simp [en]⟩
theorem sort_en {l m : List Nat} (h : m.Perm l) (hn : l.Nodup) : sorted ((m.map en).map toMsg) = sorted ((l.map en).map toMsg) := by
  refine sorted_perm_eq ((h.map _).map _) ?_
  have e : ((l.map en).map toMsg).map mkey = (l.map en).map (·.1) := by rw [List.map_map]; rfl
  rw [e]
  exact keys_en hn

def dn (N i : Nat) : List Nat := (List.range i).map fun j => N - 1 - j
theorem dn_succ (N i : Nat) : dn N (i + 1) = dn N i ++ [N - 1 - i] := by unfold dn; rw [List.range_succ, List.map_append]; rfl
theorem dn_out {N i : Nat} (h : i < N) : N - 1 - i ∉ dn N i := by
  unfold dn
  intro hc
  obtain ⟨j, hj, he⟩ := List.mem_map.1 hc
  have := List.mem_range.1 hj
  omega
theorem dn_nodup {N i : Nat} (h : i ≤ N) : (dn N i).Nodup := by
  unfold dn
  refine List.pairwise_map.2 (List.Pairwise.imp_of_mem ?_ List.nodup_range)
  intro a b ha hb hne
  have := List.mem_range.1 ha
  have := List.mem_range.1 hb
  omega
theorem dn_mem {N i : Nat} : i ∈ dn N N ↔ i < N := by
  unfold dn
  rw [List.mem_map]
  constructor
  · rintro ⟨j, hj, rfl⟩
    have := List.mem_range.1 hj
    omega
  · intro h
    exact ⟨N - 1 - i, List.mem_range.2 (by omega), by omega⟩
theorem dn_perm (N : Nat) : (dn N N).Perm (List.range N) :=
  (List.perm_ext_iff_of_nodup (dn_nodup (Nat.le_refl _)) List.nodup_range).2 fun i => by rw [dn_mem, List.mem_range]
theorem dn_len (N i : Nat) : (dn N i).length = i := by simp [dn]

theorem drop_range {N i : Nat} (h : i < N) : (List.range N).drop i = i :: (List.range N).drop (i + 1) := by
  rw [List.drop_eq_getElem_cons (by simpa using h)]
  simp
theorem drop_out {N i : Nat} (h : i < N) : i ∉ (List.range N).drop (i + 1) := by
  have h1 : ((List.range N).drop i).Nodup := List.nodup_range.sublist (List.drop_sublist ..)
  rw [drop_range h, List.nodup_cons] at h1
  exact h1.1

theorem c_BagOrders (L : List Int) (b : Option Addr) (m d : Nat) : Con Try.prog 5 #[.slice b m d] [] [aSl I L b m d]
    (fun _ : Unit => True) (fun _ => .bool true) (fun _ => []) (fun _ => []) := by
  refine con_of (n := 140) Try.func5 rfl rfl rfl (by simp) ?_
  intro C hC
  refine T_seq (T_reg rfl ?_)
  refine V_q (q_asg rfl rfl) rfl rfl ?_
  refine V_next (fun _ => rfl) ?_
  refine T_seq (T_reg rfl ?_)
  refine V_q (q_mov rfl rfl) rfl rfl ?_
  refine V_q (q_buildS rfl pl30 tz30 rfl rfl (by repeat (first | exact FillL.nil | apply FillL.cons rfl rfl (by repeat (first | exact PutL.z | apply PutL.s | apply PutL.t))))) rfl rfl ?_
  refine V_l (l_boxA rfl rfl) rfl rfl ?_; rintro g16 -
  refine V_q (q_asg rfl rfl) rfl rfl ?_
  refine V_next (fun _ => rfl) ?_
  refine T_seq (T_reg rfl ?_)
  refine V_l (l_call rfl ent10 rfl (c_New) (by repeat (first | with_reducible exact Pick.nil | apply Pick.cons (by repeat (first | with_reducible exact Sel.head | apply Sel.tail)))) (by repeat (first | with_reducible exact Ins.nil | refine Ins.cons (by repeat (first | with_reducible exact In.head | apply In.tail)) ?_)) (fun _ => (by repeat (first | with_reducible exact App.nil | apply App.cons))) (fun _ => (by repeat (first | with_reducible exact App.nil | apply App.cons)))) rfl rfl ?_; rintro ⟨g1, r1⟩ -
  refine V_l (l_call rfl ent10 rfl (c_New) (by repeat (first | with_reducible exact Pick.nil | apply Pick.cons (by repeat (first | with_reducible exact Sel.head | apply Sel.tail)))) (by repeat (first | with_reducible exact Ins.nil | refine Ins.cons (by repeat (first | with_reducible exact In.head | apply In.tail)) ?_)) (fun _ => (by repeat (first | with_reducible exact App.nil | apply App.cons))) (fun _ => (by repeat (first | with_reducible exact App.nil | apply App.cons)))) rfl rfl ?_; rintro ⟨g2, r2⟩ -
  refine V_q (q_asg rfl rfl) rfl rfl ?_
  refine V_q (q_asg rfl rfl) rfl rfl ?_
  refine V_next (fun _ => rfl) ?_
  refine T_seq ?_
  refine T_seq (T_reg rfl ?_)
  refine V_q (q_mov rfl rfl) rfl rfl ?_
  refine V_q (q_eql_pointer rfl Try.underlying34 rfl rfl) rfl rfl ?_
  refine V_q (q_mov rfl rfl) rfl rfl ?_
  refine V_want (q_mov rfl rfl) rfl rfl ?_
  refine V_want (q_eql_pointer rfl Try.underlying34 rfl rfl) rfl rfl ?_
  refine V_q (q_pick rfl rfl rfl rfl) rfl rfl ?_
  refine V_next (fun _ => rfl) ?_
  refine T_cond rfl (fun hb => ?_) (fun hb => ?_)
  · cases hb
  refine T_skip_next (fun _ => rfl) ?_
  have b1 := nxt_bounds L 0 12 (by omega)
  obtain ⟨N, hN⟩ : ∃ N : Nat, (nxt L 0 12).1 = N := ⟨(nxt L 0 12).1.toNat, by omega⟩
  have cn := c_Next L b m d g16 0 12
  have z : ((0 : Nat) : Int) = 0 := rfl
  simp only [hN, z] at cn
  have hN12 : N < 12 := by omega
  refine T_seq (T_reg rfl ?_)
  refine V_q (q_mov rfl rfl) rfl rfl ?_
  refine V_l (l_call rfl ent8 rfl (cn) (by repeat (first | with_reducible exact Pick.nil | apply Pick.cons (by repeat (first | with_reducible exact Sel.head | apply Sel.tail)))) (by repeat (first | with_reducible exact Ins.nil | refine Ins.cons (by repeat (first | with_reducible exact In.head | apply In.tail)) ?_)) (fun _ => (by repeat (first | with_reducible exact App.nil | apply App.cons))) (fun _ => (by repeat (first | with_reducible exact App.nil | apply App.cons)))) rfl rfl ?_; rintro g26 -
  refine V_q (q_asg rfl rfl) rfl rfl ?_
  refine V_next (fun _ => rfl) ?_
  refine T_ghost (fun w h => h.nil I) ?_
  refine T_seq ?_
  refine T_seq (T_reg rfl ?_)
  refine V_q (q_asg rfl rfl) rfl rfl ?_
  refine V_next (fun _ => rfl) ?_
  refine T_block ?_
  refine T_loop (fun y : Nat × List (Key3 × Value) × List (Key3 × Value) => [(4, .pointer (some ⟨g1, 0, none⟩)), (5, .pointer (some ⟨g2, 0, none⟩)), (6, .int .i64 N), (7, .int .i64 y.1)]) (fun y => [rBlk g1 56 [.map (some r1)], rMap κ3 r1 y.2.1, rBlk g2 56 [.map (some r2)], rMap κ3 r2 y.2.2])
    (fun y => [aSl I [] none 0 0, aMp rTn ((List.range y.1).map en) y.2.1, aMp rTn ((dn N y.1).map en) y.2.2]) (fun y => y.1 ≤ N) (fun y => N - y.1) (0, [], []) (Nat.zero_le _) ⟨rfl, rfl, rfl, rfl, trivial⟩ (fun w h => h.pick (by repeat (first | with_reducible exact Pick.nil | apply Pick.cons (by repeat (first | with_reducible exact Sel.head | apply Sel.tail)))) (by simp [dn])) ?_
  rintro ⟨i, Ea, Eb⟩ hi
  replace hi : i ≤ N := hi
  refine T_seq ?_
  refine T_seq (T_reg rfl ?_)
  refine V_q (q_mov rfl rfl) rfl rfl ?_
  refine V_q (q_mov rfl rfl) rfl rfl ?_
  refine V_q (q_lt rfl rfl rfl) rfl rfl ?_
  refine V_next (fun _ => rfl) ?_
  by_cases hiN : (i : Int) < N
  rotate_left
  · rw [decide_eq_false hiN]
    refine T_cond rfl (fun hb => ?_) (fun hb => ?_)
    · cases hb
    have hiN' : i = N := by omega
    subst hiN'
    refine T_exit_next (fun _ => rfl) ?_
    have hsort := sort_en (dn_perm i) List.nodup_range
    have ca1 := c_All g1 r1 ((List.range i).map en) Ea (small_en _) (by simp; omega)
    have ca2 := c_All g2 r2 ((dn i i).map en) Eb (small_en _) (by simp [dn_len]; omega)
    simp only [hsort, List.length_map, List.length_range, dn_len] at ca1 ca2
    have cm := fun p q s t => c_Messages (sorted (((List.range i).map en).map toMsg)) (sorted (((List.range i).map en).map toMsg)) p q i s i t
    simp only [decide_true] at cm
    have cl1 := c_Len g1 r1 ((List.range i).map en) Ea
    simp only [List.length_map, List.length_range] at cl1
    refine T_seq ?_
    refine T_seq (T_reg rfl ?_)
    refine V_q (q_mov rfl rfl) rfl rfl ?_
    refine V_l (l_call rfl ent13 rfl (ca1) (by repeat (first | with_reducible exact Pick.nil | apply Pick.cons (by repeat (first | with_reducible exact Sel.head | apply Sel.tail)))) (by repeat (first | with_reducible exact Ins.nil | refine Ins.cons (by repeat (first | with_reducible exact In.head | apply In.tail)) ?_)) (fun _ => (by repeat (first | with_reducible exact App.nil | apply App.cons))) (fun _ => (by repeat (first | with_reducible exact App.nil | apply App.cons)))) rfl rfl ?_; rintro ⟨aa, ac⟩ -
    refine V_q (q_mov rfl rfl) rfl rfl ?_
    refine V_l (l_call rfl ent13 rfl (ca2) (by repeat (first | with_reducible exact Pick.nil | apply Pick.cons (by repeat (first | with_reducible exact Sel.head | apply Sel.tail)))) (by repeat (first | with_reducible exact Ins.nil | refine Ins.cons (by repeat (first | with_reducible exact In.head | apply In.tail)) ?_)) (fun _ => (by repeat (first | with_reducible exact App.nil | apply App.cons))) (fun _ => (by repeat (first | with_reducible exact App.nil | apply App.cons)))) rfl rfl ?_; rintro ⟨ba, bc⟩ -
    refine V_l (l_call rfl ent12 rfl (cm aa ba ac bc) (by repeat (first | with_reducible exact Pick.nil | apply Pick.cons (by repeat (first | with_reducible exact Sel.head | apply Sel.tail)))) (by repeat (first | with_reducible exact Ins.nil | refine Ins.cons (by repeat (first | with_reducible exact In.head | apply In.tail)) ?_)) (fun _ => (by repeat (first | with_reducible exact App.nil | apply App.cons))) (fun _ => (by repeat (first | with_reducible exact App.nil | apply App.cons)))) rfl rfl ?_; rintro g66 -
    refine V_q (q_not rfl rfl) rfl rfl ?_
    refine V_q (q_mov rfl rfl) rfl rfl ?_
    refine V_want (q_mov rfl rfl) rfl rfl ?_
    refine V_wantl (l_call rfl ent14 rfl (cl1) (by repeat (first | with_reducible exact Pick.nil | apply Pick.cons (by repeat (first | with_reducible exact Sel.head | apply Sel.tail)))) (by repeat (first | with_reducible exact Ins.nil | refine Ins.cons (by repeat (first | with_reducible exact In.head | apply In.tail)) ?_)) (fun _ => (by repeat (first | with_reducible exact App.nil | apply App.cons))) (fun _ => (by repeat (first | with_reducible exact App.nil | apply App.cons)))) rfl rfl ?_; rintro g70 -
    refine V_want (q_mov rfl rfl) rfl rfl ?_
    refine V_want (Qu.eq (Y := .bool false) (q_ne rfl rfl rfl) (by simp)) rfl rfl ?_
    refine V_q (q_pick rfl rfl rfl rfl) rfl rfl ?_
    refine V_next (fun _ => rfl) ?_
    refine T_cond rfl (fun hb => ?_) (fun hb => ?_)
    · cases hb
    refine T_skip_next (fun _ => rfl) ?_
    refine T_seq ?_
    refine T_seq (T_reg rfl ?_)
    refine V_q (q_asg rfl rfl) rfl rfl ?_
    refine V_next (fun _ => rfl) ?_
    refine T_block ?_
    refine T_loop (fun y : Nat × List (Key3 × Value) => [(4, .pointer (some ⟨g1, 0, none⟩)), (5, .pointer (some ⟨g2, 0, none⟩)), (6, .int .i64 i), (9, .int .i64 y.1)]) (fun y => [rBlk g1 56 [.map (some r1)], rMap κ3 r1 y.2, rBlk g2 56 [.map (some r2)], rMap κ3 r2 Eb])
      (fun y => [aMp rTn (((List.range i).drop y.1).map en) y.2, aMp rTn ((dn i i).map en) Eb]) (fun y => y.1 ≤ i) (fun y => i - y.1) (0, Ea) (Nat.zero_le _) ⟨rfl, rfl, rfl, rfl, trivial⟩ (fun w h => h.pick (by repeat (first | with_reducible exact Pick.nil | apply Pick.cons (by repeat (first | with_reducible exact Sel.head | apply Sel.tail)))) (by simp)) ?_
    rintro ⟨j, E⟩ hj
    replace hj : j ≤ i := hj
    refine T_seq ?_
    refine T_seq (T_reg rfl ?_)
    refine V_q (q_mov rfl rfl) rfl rfl ?_
    refine V_q (q_mov rfl rfl) rfl rfl ?_
    refine V_q (q_lt rfl rfl rfl) rfl rfl ?_
    refine V_next (fun _ => rfl) ?_
    by_cases hji : (j : Int) < i
    rotate_left
    · rw [decide_eq_false hji]
      refine T_cond rfl (fun hb => ?_) (fun hb => ?_)
      · cases hb
      have hj' : j = i := by omega
      subst hj'
      refine T_exit_next (fun _ => rfl) ?_
      have cl1 := c_Len g1 r1 (((List.range j).drop j).map en) E
      have cl2 := c_Len g2 r2 ((dn j j).map en) Eb
      simp only [List.length_map, List.length_drop, List.length_range, Nat.sub_self, dn_len] at cl1 cl2
      refine T_seq (T_reg rfl ?_)
      refine V_q (q_mov rfl rfl) rfl rfl ?_
      refine V_l (l_call rfl ent14 rfl (cl1) (by repeat (first | with_reducible exact Pick.nil | apply Pick.cons (by repeat (first | with_reducible exact Sel.head | apply Sel.tail)))) (by repeat (first | with_reducible exact Ins.nil | refine Ins.cons (by repeat (first | with_reducible exact In.head | apply In.tail)) ?_)) (fun _ => (by repeat (first | with_reducible exact App.nil | apply App.cons))) (fun _ => (by repeat (first | with_reducible exact App.nil | apply App.cons)))) rfl rfl ?_; rintro g129 -
      refine V_q (q_eq rfl rfl rfl) rfl rfl ?_
      refine V_q (q_mov rfl rfl) rfl rfl ?_
      refine V_want (q_mov rfl rfl) rfl rfl ?_
      refine V_wantl (l_call rfl ent14 rfl (cl2) (by repeat (first | with_reducible exact Pick.nil | apply Pick.cons (by repeat (first | with_reducible exact Sel.head | apply Sel.tail)))) (by repeat (first | with_reducible exact Ins.nil | refine Ins.cons (by repeat (first | with_reducible exact In.head | apply In.tail)) ?_)) (fun _ => (by repeat (first | with_reducible exact App.nil | apply App.cons))) (fun _ => (by repeat (first | with_reducible exact App.nil | apply App.cons)))) rfl rfl ?_; rintro g133 -
      refine V_want (q_mov rfl rfl) rfl rfl ?_
      refine V_want (Qu.eq (Y := .bool true) (q_eq rfl rfl rfl) (by simp)) rfl rfl ?_
      refine V_q (q_pick rfl rfl rfl rfl) rfl rfl ?_
      refine V_q (q_mov rfl rfl) rfl rfl ?_
      refine V_wantl (l_call rfl ent7 rfl (c_known) (by repeat (first | with_reducible exact Pick.nil | apply Pick.cons (by repeat (first | with_reducible exact Sel.head | apply Sel.tail)))) (by repeat (first | with_reducible exact Ins.nil | refine Ins.cons (by repeat (first | with_reducible exact In.head | apply In.tail)) ?_)) (fun _ => (by repeat (first | with_reducible exact App.nil | apply App.cons))) (fun _ => (by repeat (first | with_reducible exact App.nil | apply App.cons)))) rfl rfl ?_; rintro g138 -
      refine V_q (q_pick rfl rfl rfl rfl) rfl rfl ?_
      refine V_q (q_asg rfl rfl) rfl rfl ?_
      refine V_next (fun _ => rfl) ?_
      exact T_ret fun w h => ⟨_, res_1 rfl, (), trivial, rfl, h.weak (List.nil_sublist _) (by simp)⟩
    rw [decide_eq_true hji]
    refine T_cond rfl (fun hb => ?_) (fun hb => ?_)
    rotate_left
    · cases hb
    refine T_skip_next (fun _ => rfl) ?_
    refine T_seq ?_
    refine T_block ?_
    have hji' : j < i := by omega
    have ct1 := c_Take g1 r1 (((List.range i).drop j).map en) E ((j : Int).tmod 3) ((j : Int).tmod 2) j
    have ct2 := c_Take g1 r1 (((List.range i).drop (j + 1)).map en) (delE E (kOf j)) ((j : Int).tmod 3) ((j : Int).tmod 2) j
    have ch := c_Has g2 r2 ((dn i i).map en) Eb ((j : Int).tmod 3) ((j : Int).tmod 2) j
    change Con _ _ _ _ _ _ (fun y => .tuple #[_, .bool (lkE (((List.range i).drop j).map en) (kOf j)).isSome]) (fun _ => [_, rMap κ3 r1 (delE E (kOf j))]) (fun y => [aMp rTn (delE (((List.range i).drop j).map en) (kOf j)) (delE E (kOf j)), aSl I ((lkE (((List.range i).drop j).map en) (kOf j)).getD Tn0).sh _ _ _, aSl I ((lkE (((List.range i).drop j).map en) (kOf j)).getD Tn0).da _ _ _]) at ct1
    change Con _ _ _ _ _ _ (fun y => .tuple #[_, .bool (lkE (((List.range i).drop (j + 1)).map en) (kOf j)).isSome]) (fun _ => [_, rMap κ3 r1 (delE (delE E (kOf j)) (kOf j))]) (fun y => [aMp rTn (delE (((List.range i).drop (j + 1)).map en) (kOf j)) (delE (delE E (kOf j)) (kOf j)), aSl I ((lkE (((List.range i).drop (j + 1)).map en) (kOf j)).getD Tn0).sh _ _ _, aSl I ((lkE (((List.range i).drop (j + 1)).map en) (kOf j)).getD Tn0).da _ _ _]) at ct2
    change Con _ _ _ _ _ _ (fun _ => .bool (lkE ((dn i i).map en) (kOf j)).isSome) _ _ at ch
    have q1 : lkE (((List.range i).drop j).map en) (kOf j) = some ⟨[], [(j : Int)]⟩ := lk_in (by rw [drop_range hji']; simp)
    have q2 : delE (((List.range i).drop j).map en) (kOf j) = ((List.range i).drop (j + 1)).map en := by rw [drop_range hji']; exact del_en (drop_out hji')
    have q3 : lkE (((List.range i).drop (j + 1)).map en) (kOf j) = none := lk_out (drop_out hji')
    have q4 : delE (((List.range i).drop (j + 1)).map en) (kOf j) = ((List.range i).drop (j + 1)).map en := delE_none q3
    have q5 : lkE ((dn i i).map en) (kOf j) = some ⟨[], [(j : Int)]⟩ := lk_in (dn_mem.2 hji')
    simp only [q1, q2, Option.isSome_some, Option.getD_some] at ct1
    simp only [q3, q4, Option.isSome_none, Option.getD_none] at ct2
    simp only [q5, Option.isSome_some] at ch
    refine T_seq (T_reg rfl ?_)
    refine V_q (q_mov rfl rfl) rfl rfl ?_
    refine V_q (q_mov rfl rfl) rfl rfl ?_
    refine V_q (q_rem rfl rfl rfl (by omega)) rfl rfl ?_
    refine V_q (q_mov rfl rfl) rfl rfl ?_
    refine V_q (q_rem rfl rfl rfl (by omega)) rfl rfl ?_
    refine V_q (q_mov rfl rfl) rfl rfl ?_
    refine V_l (l_call rfl ent15 rfl (ct1) (by repeat (first | with_reducible exact Pick.nil | apply Pick.cons (by repeat (first | with_reducible exact Sel.head | apply Sel.tail)))) (by repeat (first | with_reducible exact Ins.nil | refine Ins.cons (by repeat (first | with_reducible exact In.head | apply In.tail)) ?_)) (fun _ => (by repeat (first | with_reducible exact App.nil | apply App.cons))) (fun _ => (by repeat (first | with_reducible exact App.nil | apply App.cons)))) rfl rfl ?_; rintro ⟨⟨pa, pn, pc⟩, ⟨qa, qn, qc⟩⟩ -
    refine V_q (q_mov rfl rfl) rfl rfl ?_
    refine V_q (q_ext rfl rfl rfl) rfl rfl ?_
    refine V_q (q_ext rfl rfl rfl) rfl rfl ?_
    refine V_l (l_alloc (cs := [.slice none 0 0, .slice none 0 0]) rfl tz39 rfl) rfl rfl ?_; rintro g10 -
    refine V_n (l_st rfl ty39 rfl rfl rfl rfl rfl (by repeat (first | with_reducible exact Put.head | apply Put.tail)) (by repeat (first | exact PutL.z | apply PutL.s | apply PutL.t))) rfl rfl ?_; rintro ⟨⟩ -
    refine V_q (q_asg rfl rfl) rfl rfl ?_
    refine V_next (fun _ => rfl) ?_
    refine T_pure (φ := qn = 1) (fun w h => (sl_len h (xs := [(j : Int)]) (a := qa) In.head.tail.tail).1) (fun hq => ?_)
    subst hq
    refine T_seq (T_reg rfl ?_)
    refine V_q (q_mov rfl rfl) rfl rfl ?_
    refine V_q (q_mov rfl rfl) rfl rfl ?_
    refine V_q (q_rem rfl rfl rfl (by omega)) rfl rfl ?_
    refine V_q (q_mov rfl rfl) rfl rfl ?_
    refine V_q (q_rem rfl rfl rfl (by omega)) rfl rfl ?_
    refine V_q (q_mov rfl rfl) rfl rfl ?_
    refine V_l (l_call rfl ent15 rfl (ct2) (by repeat (first | with_reducible exact Pick.nil | apply Pick.cons (by repeat (first | with_reducible exact Sel.head | apply Sel.tail)))) (by repeat (first | with_reducible exact Ins.nil | refine Ins.cons (by repeat (first | with_reducible exact In.head | apply In.tail)) ?_)) (fun _ => (by repeat (first | with_reducible exact App.nil | apply App.cons))) (fun _ => (by repeat (first | with_reducible exact App.nil | apply App.cons)))) rfl rfl ?_; rintro ⟨⟨ra, rn, rc⟩, ⟨sa', sn, sc⟩⟩ -
    refine V_q (q_mov rfl rfl) rfl rfl ?_
    refine V_q (q_ext rfl rfl rfl) rfl rfl ?_
    refine V_q (q_ext rfl rfl rfl) rfl rfl ?_
    refine V_l (l_alloc (cs := [.slice none 0 0, .slice none 0 0]) rfl tz39 rfl) rfl rfl ?_; rintro g12 -
    refine V_n (l_st rfl ty39 rfl rfl rfl rfl rfl (by repeat (first | with_reducible exact Put.head | apply Put.tail)) (by repeat (first | exact PutL.z | apply PutL.s | apply PutL.t))) rfl rfl ?_; rintro ⟨⟩ -
    refine V_q (q_asg rfl rfl) rfl rfl ?_
    refine V_next (fun _ => rfl) ?_
    refine T_seq (T_reg rfl ?_)
    refine V_q (q_mov rfl rfl) rfl rfl ?_
    refine V_q (q_not rfl rfl) rfl rfl ?_
    refine V_q (q_mov rfl rfl) rfl rfl ?_
    refine V_want (q_mov rfl rfl) rfl rfl ?_
    refine V_q (q_pick rfl rfl rfl rfl) rfl rfl ?_
    refine V_q (q_mov rfl rfl) rfl rfl ?_
    refine V_want (q_fa rfl fd39_1 rfl) rfl rfl ?_
    refine V_want (q_ld rfl ty37 rfl (by repeat (first | with_reducible exact Sel.head | apply Sel.tail)) rfl) rfl rfl ?_
    refine V_want (q_len rfl Try.underlying37 rfl) rfl rfl ?_
    refine V_want (q_ne rfl rfl rfl) rfl rfl ?_
    refine V_q (q_pick rfl rfl rfl rfl) rfl rfl ?_
    refine V_q (q_mov rfl rfl) rfl rfl ?_
    refine V_want (q_fa rfl fd39_1 rfl) rfl rfl ?_
    refine V_want (q_ld rfl ty37 rfl (by repeat (first | with_reducible exact Sel.head | apply Sel.tail)) rfl) rfl rfl ?_
    refine V_want (q_iaN (i := 0) rfl Try.underlying37 ty2 rfl rfl Nat.zero_lt_one (by repeat (first | with_reducible exact In.head | apply In.tail))) rfl rfl ?_
    refine V_want (q_ldN rfl ty2 rfl (by repeat (first | with_reducible exact In.head | apply In.tail)) Nat.zero_lt_one) rfl rfl ?_
    refine V_want (q_mov rfl rfl) rfl rfl ?_
    refine V_want (Qu.eq (Y := .bool false) (q_ne rfl rfl rfl) (congrArg Value.bool (decide_eq_false (fun h => h rfl)))) rfl rfl ?_
    refine V_q (q_pick rfl rfl rfl rfl) rfl rfl ?_
    refine V_q (q_mov rfl rfl) rfl rfl ?_
    refine V_want (q_mov rfl rfl) rfl rfl ?_
    refine V_want (q_mov rfl rfl) rfl rfl ?_
    refine V_want (q_rem rfl rfl rfl (by omega)) rfl rfl ?_
    refine V_want (q_mov rfl rfl) rfl rfl ?_
    refine V_want (q_rem rfl rfl rfl (by omega)) rfl rfl ?_
    refine V_want (q_mov rfl rfl) rfl rfl ?_
    refine V_wantl (l_call rfl ent16 rfl (ch) (by repeat (first | with_reducible exact Pick.nil | apply Pick.cons (by repeat (first | with_reducible exact Sel.head | apply Sel.tail)))) (by repeat (first | with_reducible exact Ins.nil | refine Ins.cons (by repeat (first | with_reducible exact In.head | apply In.tail)) ?_)) (fun _ => (by repeat (first | with_reducible exact App.nil | apply App.cons))) (fun _ => (by repeat (first | with_reducible exact App.nil | apply App.cons)))) rfl rfl ?_; rintro g125 -
    refine V_want (q_not rfl rfl) rfl rfl ?_
    refine V_q (q_pick rfl rfl rfl rfl) rfl rfl ?_
    refine V_next (fun _ => rfl) ?_
    refine T_cond rfl (fun hb => ?_) (fun hb => ?_)
    · cases hb
    refine T_skip_next (fun _ => rfl) ?_
    refine T_reg rfl ?_
    refine V_q (q_mov rfl rfl) rfl rfl ?_
    refine V_q (q_addI rfl rfl rfl (by omega)) rfl rfl ?_
    refine V_q (q_asg rfl rfl) rfl rfl ?_
    refine V_nil ?_
    exact fun w h => ⟨(j + 1, delE (delE E (kOf j)) (kOf j)), ⟨by show i - (j + 1) < i - j; omega, by show j + 1 ≤ i; omega⟩, ⟨rfl, rfl, rfl, rfl, trivial⟩, h.pick (by repeat (first | with_reducible exact Pick.nil | apply Pick.cons (by repeat (first | with_reducible exact Sel.head | apply Sel.tail)))) (by simp)⟩
  rw [decide_eq_true hiN]
  refine T_cond rfl (fun hb => ?_) (fun hb => ?_)
  rotate_left
  · cases hb
  refine T_skip_next (fun _ => rfl) ?_
  refine T_seq ?_
  refine T_block ?_
  have hiN' : i < N := by omega
  refine T_seq (T_reg rfl ?_)
  refine V_q (q_mov rfl rfl) rfl rfl ?_
  refine V_q (q_subE ((N - 1 : Nat) : Int) rfl rfl rfl (by omega) (by omega)) rfl rfl ?_
  refine V_q (q_mov rfl rfl) rfl rfl ?_
  refine V_q (q_subE ((N - 1 - i : Nat) : Int) rfl rfl rfl (by omega) (by omega)) rfl rfl ?_
  refine V_q (q_asg rfl rfl) rfl rfl ?_
  refine V_next (fun _ => rfl) ?_
  refine T_seq (T_reg rfl ?_)
  refine V_q (q_mov rfl rfl) rfl rfl ?_
  refine V_q (q_mov rfl rfl) rfl rfl ?_
  refine V_q (q_rem rfl rfl rfl (by omega)) rfl rfl ?_
  refine V_q (q_mov rfl rfl) rfl rfl ?_
  refine V_q (q_rem rfl rfl rfl (by omega)) rfl rfl ?_
  refine V_q (q_mov rfl rfl) rfl rfl ?_
  refine V_q (q_mov rfl rfl) rfl rfl ?_
  refine V_l (l_bs [.int .i64 0] rfl Try.underlying37 ty2 tz2 (by decide) rfl rfl rfl (by repeat (first | exact FillL.nil | apply FillL.cons rfl rfl (by repeat (first | exact PutL.z | apply PutL.s | apply PutL.t))))) rfl rfl ?_; rintro g43 -
  refine V_ghost (fun w h => h.sealI (k := .i64) (n := 1) (cs := [.int .i64 i]) [(i : Int)] (by repeat (first | with_reducible exact Sel.head | apply Sel.tail)) rfl rfl (by decide)) ?_
  have cp1 := c_Put g1 r1 ((List.range i).map en) Ea ((i : Int).tmod 3) ((i : Int).tmod 2) i [] [(i : Int)] none (some ⟨g43, 0, none⟩) 0 0 1 1 (by omega) (by omega)
  change Con _ _ _ _ _ _ (fun y => .bool (!(lkE ((List.range i).map en) (kOf i)).isSome)) _ (fun y => [aMp rTn (bput ((List.range i).map en) (kOf i) ⟨[], [(i : Int)]⟩) y]) at cp1
  have hni : i ∉ List.range i := fun h => by have := List.mem_range.1 h; omega
  simp only [lk_out hni, put_en hni, ← List.range_succ, Option.isSome_none, Bool.not_false] at cp1
  refine V_q (q_buildS rfl pl39 tz39 rfl rfl (by repeat (first | exact FillL.nil | apply FillL.cons rfl rfl (by repeat (first | exact PutL.z | apply PutL.s | apply PutL.t))))) rfl rfl ?_
  refine V_q (q_buildS rfl pl41 tz41 rfl rfl (by repeat (first | exact FillL.nil | apply FillL.cons rfl rfl (by repeat (first | exact PutL.z | apply PutL.s | apply PutL.t))))) rfl rfl ?_
  refine V_l (l_call rfl ent11 rfl (cp1) (by repeat (first | with_reducible exact Pick.nil | apply Pick.cons (by repeat (first | with_reducible exact Sel.head | apply Sel.tail)))) (by repeat (first | with_reducible exact Ins.nil | refine Ins.cons (by repeat (first | with_reducible exact In.head | apply In.tail)) ?_)) (fun _ => (by repeat (first | with_reducible exact App.nil | apply App.cons))) (fun _ => (by repeat (first | with_reducible exact App.nil | apply App.cons)))) rfl rfl ?_; rintro Ea' -
  refine V_q (q_not rfl rfl) rfl rfl ?_
  refine V_q (q_mov rfl rfl) rfl rfl ?_
  refine V_want (q_mov rfl rfl) rfl rfl ?_
  refine V_want (q_mov rfl rfl) rfl rfl ?_
  refine V_want (q_rem rfl rfl rfl (by omega)) rfl rfl ?_
  refine V_want (q_mov rfl rfl) rfl rfl ?_
  refine V_want (q_rem rfl rfl rfl (by omega)) rfl rfl ?_
  refine V_want (q_mov rfl rfl) rfl rfl ?_
  refine V_want (q_mov rfl rfl) rfl rfl ?_
  refine V_wantl (l_bs [.int .i64 0] rfl Try.underlying37 ty2 tz2 (by decide) rfl rfl rfl (by repeat (first | exact FillL.nil | apply FillL.cons rfl rfl (by repeat (first | exact PutL.z | apply PutL.s | apply PutL.t))))) rfl rfl ?_; rintro g56 -
  refine V_ghost (fun w h => h.sealI (k := .i64) (n := 1) (cs := [.int .i64 ((N - 1 - i : Nat) : Int)]) [((N - 1 - i : Nat) : Int)] (by repeat (first | with_reducible exact Sel.head | apply Sel.tail)) rfl rfl (by decide)) ?_
  have cp2 := c_Put g2 r2 ((dn N i).map en) Eb (((N - 1 - i : Nat) : Int).tmod 3) (((N - 1 - i : Nat) : Int).tmod 2) (N - 1 - i : Nat) [] [((N - 1 - i : Nat) : Int)] none (some ⟨g56, 0, none⟩) 0 0 1 1 (by omega) (by omega)
  change Con _ _ _ _ _ _ (fun y => .bool (!(lkE ((dn N i).map en) (kOf (N - 1 - i : Nat))).isSome)) _ (fun y => [aMp rTn (bput ((dn N i).map en) (kOf (N - 1 - i : Nat)) ⟨[], [((N - 1 - i : Nat) : Int)]⟩) y]) at cp2
  simp only [lk_out (dn_out hiN'), put_en (dn_out hiN'), ← dn_succ, Option.isSome_none, Bool.not_false] at cp2
  refine V_want (q_buildS rfl pl39 tz39 rfl rfl (by repeat (first | exact FillL.nil | apply FillL.cons rfl rfl (by repeat (first | exact PutL.z | apply PutL.s | apply PutL.t))))) rfl rfl ?_
  refine V_want (q_buildS rfl pl41 tz41 rfl rfl (by repeat (first | exact FillL.nil | apply FillL.cons rfl rfl (by repeat (first | exact PutL.z | apply PutL.s | apply PutL.t))))) rfl rfl ?_
  refine V_wantl (l_call rfl ent11 rfl (cp2) (by repeat (first | with_reducible exact Pick.nil | apply Pick.cons (by repeat (first | with_reducible exact Sel.head | apply Sel.tail)))) (by repeat (first | with_reducible exact Ins.nil | refine Ins.cons (by repeat (first | with_reducible exact In.head | apply In.tail)) ?_)) (fun _ => (by repeat (first | with_reducible exact App.nil | apply App.cons))) (fun _ => (by repeat (first | with_reducible exact App.nil | apply App.cons)))) rfl rfl ?_; rintro Eb' -
  refine V_want (q_not rfl rfl) rfl rfl ?_
  refine V_q (q_pick rfl rfl rfl rfl) rfl rfl ?_
  refine V_next (fun _ => rfl) ?_
  refine T_cond rfl (fun hb => ?_) (fun hb => ?_)
  · cases hb
  refine T_skip_next (fun _ => rfl) ?_
  refine T_reg rfl ?_
  refine V_q (q_mov rfl rfl) rfl rfl ?_
  refine V_q (q_addI rfl rfl rfl (by omega)) rfl rfl ?_
  refine V_q (q_asg rfl rfl) rfl rfl ?_
  refine V_nil ?_
  exact fun w h => ⟨(i + 1, Ea', Eb'), ⟨by show N - (i + 1) < N - i; omega, by show i + 1 ≤ N; omega⟩, ⟨rfl, rfl, rfl, rfl, trivial⟩, h.pick (by repeat (first | with_reducible exact Pick.nil | apply Pick.cons (by repeat (first | with_reducible exact Sel.head | apply Sel.tail)))) (by simp)⟩
end Go.Proofs.Ytgbhegmhbeekpaa
