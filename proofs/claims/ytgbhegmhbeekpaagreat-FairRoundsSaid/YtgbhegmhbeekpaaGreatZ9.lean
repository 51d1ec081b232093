/-
  Programs of a tape.
-/
import Derived.Test.YtgbhegmhbeekpaaGreatZ8
namespace Go.Proofs.YtgbhegmhbeekpaaGreat
open Go
set_option maxRecDepth 100000

/-- what the tape's programs are -/
structure ProgsOk (n : Nat) (es : List EvT) (given : List (List Tn)) : Prop where
  n1 : 1 ≤ n
  n4 : n ≤ 4
  good : Good evP n (Gf given) es
  full : Full es
  glen : given.length = n
  gt : ∀ l ∈ given, ∀ t ∈ l, T1 t
  gb : ∀ l ∈ given, l.length ≤ 60
  t1 : ∀ x ∈ es, T1 x.v
  shp : ∀ x ∈ es, ShI x.i
  few : es.length ≤ 60
  tags : ∀ x ∈ es, x.i.kind = 3 → 0 ≤ x.i.tag ∧ x.i.tag ≤ 1000
  pairs : cnt 3 es = cnt 4 es

theorem KInv.progs {n : Nat} {s : MkS} (h : KInv evP n s) (h1 : 1 ≤ n) (h4 : n ≤ 4) (hW : s.W = []) (hl : s.es.length ≤ 60) : ProgsOk n s.es s.given :=
  ⟨h1, h4, h.good, h.full hW, h.glen, h.gt, fun l q => Nat.le_trans (h.gb l q) hl, h.t1, h.shp, hl, fun x hx hk => by have := h.tags x hx hk; have := h.tb; omega, by have := h.w3; rw [hW] at this; simpa using this⟩

theorem c_Programs (L : List Int) (a : Option Addr) (ln lc : Nat) : Con Tryz.prog 23 #[.slice a ln lc] [] [aSl I L a ln lc]
    (fun y : (Nat × List EvT × List (List Tn)) × Nat × Nat => ProgsOk y.1.1 y.1.2.1 y.1.2.2) (fun y => .tuple #[.slice (some ⟨y.2.1, 0, none⟩) y.1.1 y.1.1, .slice (some ⟨y.2.2, 0, none⟩) y.1.1 y.1.1]) (fun _ => [])
    (fun y => [aSl (rSl rInst) (PLs y.1.1 y.1.2.1) (some ⟨y.2.1, 0, none⟩) y.1.1 y.1.1, aSl (rSl rTn) y.1.2.2 (some ⟨y.2.2, 0, none⟩) y.1.1 y.1.1]) := by
  refine con_of (n := 61) Tryz.func23 rfl rfl rfl (by simp) ?_
  intro C hC
  refine T_seq (T_reg rfl ?_)
  refine V_q (q_asg rfl rfl) rfl rfl ?_
  refine V_q (q_asg rfl rfl) rfl rfl ?_
  refine V_next (fun _ => rfl) ?_
  refine T_seq (T_reg rfl ?_)
  refine V_q (q_mov rfl rfl) rfl rfl ?_
  refine V_q (q_buildS rfl pl25 tz25 rfl rfl (by repeat (first | exact FillL.nil | apply FillL.cons rfl rfl (by repeat (first | exact PutL.z | apply PutL.s | apply PutL.t))))) rfl rfl ?_
  refine V_l (l_boxA rfl rfl) rfl rfl ?_; rintro g12 -
  refine V_q (q_asg rfl rfl) rfl rfl ?_
  refine V_next (fun _ => rfl) ?_
  have hr4 := nxtN_lt L 0 4 (by omega)
  refine T_ghost (own' := [rBlk g12 25 [.slice a ln lc, .int .i64 ((0 : Nat) : Int)]]) (fun w h => h) ?_
  refine T_seq (T_reg rfl ?_)
  refine V_q (q_mov rfl rfl) rfl rfl ?_
  refine V_l (l_call rfl ent54 rfl (c_NextN L a ln lc g12 0 4 (by omega)) (by repeat (first | with_reducible exact Pick.nil | apply Pick.cons (by repeat (first | with_reducible exact Sel.head | apply Sel.tail)))) (by repeat (first | with_reducible exact Ins.nil | refine Ins.cons (by repeat (first | with_reducible exact In.head | apply In.tail)) ?_)) (fun _ => (by repeat (first | with_reducible exact App.nil | apply App.cons))) (fun _ => (by repeat (first | with_reducible exact App.nil | apply App.cons)))) rfl rfl ?_; rintro g14 -
  refine V_q (q_addI rfl rfl rfl (by omega)) rfl rfl ?_
  refine V_q (q_asg rfl rfl) rfl rfl ?_
  refine V_next (fun _ => rfl) ?_
  obtain ⟨n, hn⟩ : ∃ n, n = 1 + nxtN L 0 4 := ⟨_, rfl⟩
  have hnc : (1 + (nxtN L 0 4 : Nat) : Int) = (n : Nat) := by omega
  rw [hnc]
  have hn8 : n ≤ 4 := by omega
  refine T_cut (fun y : (Nat × Nat) × Nat => [(4, .pointer (some ⟨g12, 0, none⟩)), (5, .int .i64 n), (6, .pointer (some ⟨y.2, 0, none⟩))]) (fun y => [rBlk y.2 96 [.slice (some ⟨y.1.1, 0, none⟩) n n, .slice (some ⟨y.1.2, 0, none⟩) n n, .slice none 0 0, .int .i64 0], rBlk y.1.1 63 (zerosL [.slice none 0 0] n), rBlk y.1.2 86 (zerosL [.slice none 0 0] n), rBlk g12 25 [.slice a ln lc, .int .i64 (nxtP L 0 4)]]) (fun _ => [aSl I L a ln lc]) (fun _ => True) ?_ ?_
  · refine T_drawn hmix (.pure 0 <| .pure 2 <| .both (.bar 1 <| .bar 3 <| .pure 4 <| .bar 5 <| .pure 6 <| .fin) (.bar 3 <| .bar 1 <| .pure 4 <| .bar 5 <| .pure 6 <| .fin)) (by decide +kernel) ?_
    refine W_p rfl (q_mov rfl rfl) rfl rfl ?_
    refine W_p rfl (q_mov rfl rfl) rfl rfl ?_
    refine W_both ?_ ?_
    · refine W_b rfl (l_make [.slice none 0 0] rfl Tryz.underlying42 ty63 tz63 tb63 rfl rfl rfl rfl (by omega) (by unfold maxLen; omega)) rfl rfl ?_; rintro gl -
      refine W_b rfl (l_make [.slice none 0 0] rfl Tryz.underlying94 ty86 tz86 tb86 rfl rfl rfl rfl (by omega) (by unfold maxLen; omega)) rfl rfl ?_; rintro gr -
      refine W_p rfl (q_buildS rfl pl96 tz96 rfl rfl (by repeat (first | exact FillL.nil | apply FillL.cons rfl rfl (by repeat (first | exact PutL.z | apply PutL.s | apply PutL.t))))) rfl rfl ?_
      refine W_b rfl (l_boxA rfl rfl) rfl rfl ?_; rintro g21 -
      refine W_p rfl (q_asg rfl rfl) rfl rfl ?_
      refine W_fin ?_
      exact fun w h => ⟨((gl, gr), g21), trivial, ⟨rfl, rfl, rfl, trivial⟩, h.pick (by repeat (first | with_reducible exact Pick.nil | apply Pick.cons (by repeat (first | with_reducible exact Sel.head | apply Sel.tail)))) (by simp)⟩
    · refine W_b rfl (l_make [.slice none 0 0] rfl Tryz.underlying94 ty86 tz86 tb86 rfl rfl rfl rfl (by omega) (by unfold maxLen; omega)) rfl rfl ?_; rintro gr -
      refine W_b rfl (l_make [.slice none 0 0] rfl Tryz.underlying42 ty63 tz63 tb63 rfl rfl rfl rfl (by omega) (by unfold maxLen; omega)) rfl rfl ?_; rintro gl -
      refine W_p rfl (q_buildS rfl pl96 tz96 rfl rfl (by repeat (first | exact FillL.nil | apply FillL.cons rfl rfl (by repeat (first | exact PutL.z | apply PutL.s | apply PutL.t))))) rfl rfl ?_
      refine W_b rfl (l_boxA rfl rfl) rfl rfl ?_; rintro g21 -
      refine W_p rfl (q_asg rfl rfl) rfl rfl ?_
      refine W_fin ?_
      exact fun w h => ⟨((gl, gr), g21), trivial, ⟨rfl, rfl, rfl, trivial⟩, h.pick (by repeat (first | with_reducible exact Pick.nil | apply Pick.cons (by repeat (first | with_reducible exact Sel.head | apply Sel.tail)))) (by simp)⟩
  rintro ⟨⟨gl, gr⟩, g⟩ -
  refine T_seq (T_reg rfl ?_)
  refine V_q (q_mov rfl rfl) rfl rfl ?_
  refine V_l (l_make [.slice none 0 0] rfl Tryz.underlying43 ty77 tz77 tb77 rfl rfl rfl rfl (by omega) (by unfold maxLen; omega)) rfl rfl ?_; rintro gg -
  refine V_q (q_asg rfl rfl) rfl rfl ?_
  refine V_next (fun _ => rfl) ?_
  refine T_ghost (fun w h => h.rowsNone 112 13 n) ?_
  refine T_ghost (fun w h => h.rowsNone 22 1 n) ?_
  refine T_ghost (fun w h => h.rowsNone 28 2 n) ?_
  refine T_ghost (fun w h => h.rowNil 131 5) ?_
  refine T_ghost (own' := mkO n g12 g gl gr gg (.slice a ln lc) ⟨⟨[], [], 0, List.replicate n []⟩, nxtP L 0 4, List.replicate n (.slice none 0 0, 0, []), List.replicate n (.slice none 0 0, 0, []), List.replicate n (.slice none 0 0, 0, []), .slice none 0 0, []⟩) (ats' := aSl I L a ln lc :: mkF n ⟨⟨[], [], 0, List.replicate n []⟩, nxtP L 0 4, List.replicate n (.slice none 0 0, 0, []), List.replicate n (.slice none 0 0, 0, []), List.replicate n (.slice none 0 0, 0, []), .slice none 0 0, []⟩) (fun w h => ?_) ?_
  · have e1 : zerosL [Value.slice none 0 0] n = (List.replicate n ((.slice none 0 0, 0, []) : RowT)).map (·.1) := by rw [zerosL_one, List.map_replicate]
    rw [e1] at h
    have k1 := h.know (aEvs rInst (PLs n []) (List.replicate n (.slice none 0 0, 0, []))) (by
      have : PLs n [] = List.replicate n [] := by unfold PLs progE evd; simp [List.map_const']
      rw [this]; exact EvsP.empty rInst _ _ n)
    have k2 := k1.know (aEvs (rSl I) (RLs n []) (List.replicate n (.slice none 0 0, 0, []))) (by
      have : RLs n [] = List.replicate n [] := by unfold RLs valE vsE evd; simp [List.map_const']
      rw [this]; exact EvsP.empty (rSl I) _ _ n)
    have k3 := k2.know (aEvs rTn (List.replicate n []) (List.replicate n (.slice none 0 0, 0, []))) (EvsP.empty rTn _ _ n)
    have k4 := k3.know (aEv rMsg ([].map toMsgW) []) (EvP.nil _ _ _)
    simp only [mkO, List.length_nil]
    exact k4.pick (by repeat (first | with_reducible exact Pick.nil | apply Pick.cons (by repeat (first | with_reducible exact Sel.head | apply Sel.tail)))) (by simp)
  have hr24 := nxtN_lt L (nxtP L 0 4) 24 (by omega)
  refine T_seq ?_
  refine T_seq (T_reg rfl ?_)
  refine V_q (q_mov rfl rfl) rfl rfl ?_
  refine V_l (l_call rfl ent54 rfl (c_NextN L a ln lc g12 (nxtP L 0 4) 24 (by omega)) (by repeat (first | with_reducible exact Pick.nil | apply Pick.cons (by repeat (first | with_reducible exact Sel.head | apply Sel.tail)))) (by repeat (first | with_reducible exact Ins.nil | refine Ins.cons (by repeat (first | with_reducible exact In.head | apply In.tail)) ?_)) (fun _ => (by repeat (first | with_reducible exact App.nil | apply App.cons))) (fun _ => (by repeat (first | with_reducible exact App.nil | apply App.cons)))) rfl rfl ?_; rintro g25 -
  refine V_q (q_addI rfl rfl rfl (by omega)) rfl rfl ?_
  refine V_q (q_asg rfl rfl) rfl rfl ?_
  refine V_next (fun _ => rfl) ?_
  refine T_block ?_
  obtain ⟨k0, hk0⟩ : ∃ k, k = 4 + nxtN L (nxtP L 0 4) 24 := ⟨_, rfl⟩
  have hkc : (4 + (nxtN L (nxtP L 0 4) 24 : Nat) : Int) = (k0 : Nat) := by omega
  rw [hkc]
  refine T_loop (fun y : Nat × MkM => [(4, .pointer (some ⟨g12, 0, none⟩)), (5, .int .i64 n), (6, .pointer (some ⟨g, 0, none⟩)), (7, .slice (some ⟨gg, 0, none⟩) n n), (8, .int .i64 y.1)]) (fun y => mkO n g12 g gl gr gg (.slice a ln lc) y.2) (fun y => aSl I L a ln lc :: mkF n y.2) (fun y => KInv evP n y.2.s ∧ y.2.s.es.length + y.1 ≤ 27) (fun y => y.1)
    (k0, ⟨⟨[], [], 0, List.replicate n []⟩, nxtP L (nxtP L 0 4) 24, List.replicate n (.slice none 0 0, 0, []), List.replicate n (.slice none 0 0, 0, []), List.replicate n (.slice none 0 0, 0, []), .slice none 0 0, []⟩) ⟨KInv.init evP n, by show ([] : List EvT).length + k0 ≤ 27; simp; omega⟩ ⟨rfl, rfl, rfl, rfl, rfl, trivial⟩ (fun w h => h.pick (by repeat (first | with_reducible exact Pick.nil | apply Pick.cons (by repeat (first | with_reducible exact Sel.head | apply Sel.tail)))) (by simp)) ?_
  rintro ⟨k, y⟩ ⟨hK, hkl⟩
  replace hK : KInv evP n y.s := hK
  replace hkl : y.s.es.length + k ≤ 27 := hkl
  refine T_seq ?_
  refine T_seq (T_reg rfl ?_)
  refine V_q (q_mov rfl rfl) rfl rfl ?_
  refine V_q (q_gt rfl rfl rfl) rfl rfl ?_
  refine V_next (fun _ => rfl) ?_
  refine T_cond rfl (fun hb => ?_) (fun hb => ?_)
  rotate_left
  · refine T_exit_next (fun _ => rfl) ?_
    have hW27 : y.s.W.length ≤ y.s.es.length := by
      have := hK.w3
      have h2 : cnt 3 y.s.es ≤ y.s.es.length := List.length_filter_le _ _
      omega
    refine T_seq ?_
    refine T_block ?_
    refine T_loop (fun y : MkM => [(4, .pointer (some ⟨g12, 0, none⟩)), (6, .pointer (some ⟨g, 0, none⟩)), (7, .slice (some ⟨gg, 0, none⟩) n n)]) (fun y => mkO n g12 g gl gr gg (.slice a ln lc) y) (fun y => aSl I L a ln lc :: mkF n y) (fun y => KInv evP n y.s ∧ y.s.es.length + y.s.W.length ≤ 54) (fun y => y.s.W.length)
      y ⟨hK, by omega⟩ ⟨rfl, rfl, rfl, trivial⟩ (fun w h => h) ?_
    clear hK hkl hW27
    rintro y ⟨hK, hl⟩
    obtain ⟨s, p, Ll, Lr, Lg, vw, cw⟩ := y
    replace hK : KInv evP n s := hK
    replace hl : s.es.length + s.W.length ≤ 54 := hl
    refine T_slice (e := 131) (k := 5) (v := vw) (n := s.W.length) (cs := cw) (by repeat (first | with_reducible exact Sel.head | apply Sel.tail)) fun wa wc hv => ?_
    subst hv
    refine T_seq ?_
    refine T_seq (T_reg rfl ?_)
    refine V_q (q_mov rfl rfl) rfl rfl ?_
    refine V_q (q_nil rfl rfl) rfl rfl ?_
    refine V_q (q_fa rfl fd96_2 rfl) rfl rfl ?_
    refine V_q (q_ld rfl ty65 rfl (by repeat (first | with_reducible exact Sel.head | apply Sel.tail)) rfl) rfl rfl ?_
    refine V_q (q_len rfl Tryz.underlying65 rfl) rfl rfl ?_
    refine V_q (q_gt rfl rfl rfl) rfl rfl ?_
    refine V_next (fun _ => rfl) ?_
    refine T_cond rfl (fun hb => ?_) (fun hb => ?_)
    rotate_left
    · refine T_exit_next (fun _ => rfl) ?_
      have hW0 : s.W = [] := by
        have : ¬ (0 : Int) < s.W.length := by simpa using hb
        exact List.eq_nil_of_length_eq_zero (by omega)
      refine T_seq (T_reg rfl ?_)
      refine V_q (q_mov rfl rfl) rfl rfl ?_
      refine V_q (q_nil rfl rfl) rfl rfl ?_
      refine V_q (q_fa rfl fd96_0 rfl) rfl rfl ?_
      refine V_q (q_ld rfl ty42 rfl (by repeat (first | with_reducible exact Sel.head | apply Sel.tail)) rfl) rfl rfl ?_
      refine V_q (q_mov rfl rfl) rfl rfl ?_
      refine V_q (q_asg rfl rfl) rfl rfl ?_
      refine V_q (q_asg rfl rfl) rfl rfl ?_
      refine V_next (fun _ => rfl) ?_
      refine T_ret fun w h => ?_
      have h1 := St.sealR rInst (xss := PLs n s.es) (L := Ll) (g := gl) (t := 63) (e := 112) (k := 13) h rfl (by repeat (first | with_reducible exact Pick.nil | apply Pick.cons (by repeat (first | with_reducible exact Sel.head | apply Sel.tail)))) (by decide) (by repeat (first | with_reducible exact In.head | apply In.tail)) (PLs_len n _) (by unfold maxLen; omega)
      have h2 := St.sealR rTn (xss := s.given) (L := Lg) (g := gg) (t := 77) (e := 28) (k := 2) h1 rfl (by repeat (first | with_reducible exact Pick.nil | apply Pick.cons (by repeat (first | with_reducible exact Sel.head | apply Sel.tail)))) (by decide) (by repeat (first | with_reducible exact In.head | apply In.tail)) hK.glen (by unfold maxLen; omega)
      exact ⟨_, res_2 rfl rfl, ((n, s.es, s.given), gl, gg), hK.progs (by omega) hn8 hW0 (by omega), rfl, h2.weak (List.nil_sublist _) (by simp)⟩
    have hW : 0 < s.W.length := by
      have : (0 : Int) < s.W.length := by simpa using hb
      omega
    refine T_skip_next (fun _ => rfl) ?_
    refine T_block ?_
    have hj := nxtN_lt L p s.W.length hW
    obtain ⟨x, hx⟩ : ∃ x, s.W[nxtN L p s.W.length]? = some x := ⟨_, List.getElem?_eq_getElem hj⟩
    refine T_reg rfl ?_
    refine V_q (q_mov rfl rfl) rfl rfl ?_
    refine V_q (q_mov rfl rfl) rfl rfl ?_
    refine V_q (q_mov rfl rfl) rfl rfl ?_
    refine V_q (q_nil rfl rfl) rfl rfl ?_
    refine V_q (q_fa rfl fd96_2 rfl) rfl rfl ?_
    refine V_q (q_ld rfl ty65 rfl (by repeat (first | with_reducible exact Sel.head | apply Sel.tail)) rfl) rfl rfl ?_
    refine V_q (q_len rfl Tryz.underlying65 rfl) rfl rfl ?_
    refine V_l (l_call rfl ent54 rfl (c_NextN L a ln lc g12 p s.W.length hW) (by repeat (first | with_reducible exact Pick.nil | apply Pick.cons (by repeat (first | with_reducible exact Sel.head | apply Sel.tail)))) (by repeat (first | with_reducible exact Ins.nil | refine Ins.cons (by repeat (first | with_reducible exact In.head | apply In.tail)) ?_)) (fun _ => (by repeat (first | with_reducible exact App.nil | apply App.cons))) (fun _ => (by repeat (first | with_reducible exact App.nil | apply App.cons)))) rfl rfl ?_; rintro g54 -
    refine V_l (l_call rfl ent56 rfl (c_mrecv s hK (by omega) hx Ll Lr g gl gr (.slice wa s.W.length wc) cw (.int .i64 s.tag)) (by repeat (first | with_reducible exact Pick.nil | apply Pick.cons (by repeat (first | with_reducible exact Sel.head | apply Sel.tail)))) (by repeat (first | with_reducible exact Ins.nil | refine Ins.cons (by repeat (first | with_reducible exact In.head | apply In.tail)) ?_)) (fun _ => (by repeat (first | with_reducible exact App.nil | apply App.cons))) (fun _ => (by repeat (first | with_reducible exact App.nil | apply App.cons)))) rfl rfl ?_; rintro ⟨⟨Ll', Lr'⟩, vw', cw'⟩ -
    refine V_nil ?_
    intro w h
    have hlen : (s.W.take (nxtN L p s.W.length) ++ s.W.drop (nxtN L p s.W.length + 1)).length + 1 = s.W.length := by simp; omega
    refine ⟨⟨⟨s.es ++ [⟨x.i.dev.toNat, recvI (valE s.es x.i.dev.toNat).length x, x.v⟩], s.W.take (nxtN L p s.W.length) ++ s.W.drop (nxtN L p s.W.length + 1), s.tag, s.given⟩, nxtP L p s.W.length, Ll', Lr', Lg, vw', cw'⟩, ⟨?_, hK.recv hx, ?_⟩, ⟨rfl, rfl, rfl, trivial⟩, h.pick (by repeat (first | with_reducible exact Pick.nil | apply Pick.cons (by repeat (first | with_reducible exact Sel.head | apply Sel.tail)))) (by simp)⟩
    · show (s.W.take (nxtN L p s.W.length) ++ s.W.drop (nxtN L p s.W.length + 1)).length < s.W.length
      omega
    · show (s.es ++ [_]).length + (s.W.take (nxtN L p s.W.length) ++ s.W.drop (nxtN L p s.W.length + 1)).length ≤ 54
      rw [List.length_append, List.length_singleton]
      omega
  have hk0' : 0 < k := by
    have : (0 : Int) < k := by simpa using hb
    omega
  refine T_skip_next (fun _ => rfl) ?_
  refine T_seq ?_
  refine T_block ?_
  have hrn := nxtN_lt L y.p n (by omega)
  refine T_seq (T_reg rfl ?_)
  refine V_q (q_mov rfl rfl) rfl rfl ?_
  refine V_q (q_mov rfl rfl) rfl rfl ?_
  refine V_l (l_call rfl ent54 rfl (c_NextN L a ln lc g12 y.p n (by omega)) (by repeat (first | with_reducible exact Pick.nil | apply Pick.cons (by repeat (first | with_reducible exact Sel.head | apply Sel.tail)))) (by repeat (first | with_reducible exact Ins.nil | refine Ins.cons (by repeat (first | with_reducible exact In.head | apply In.tail)) ?_)) (fun _ => (by repeat (first | with_reducible exact App.nil | apply App.cons))) (fun _ => (by repeat (first | with_reducible exact App.nil | apply App.cons)))) rfl rfl ?_; rintro g33 -
  refine V_q (q_asg rfl rfl) rfl rfl ?_
  refine V_next (fun _ => rfl) ?_
  obtain ⟨d, hdn⟩ : ∃ d, d = nxtN L y.p n := ⟨_, rfl⟩
  rw [← hdn] at hrn ⊢
  refine T_reg rfl ?_
  refine V_q (q_mov rfl rfl) rfl rfl ?_
  refine V_q (q_mov rfl rfl) rfl rfl ?_
  refine V_q (q_mov rfl rfl) rfl rfl ?_
  refine V_q (q_mov rfl rfl) rfl rfl ?_
  refine V_q (q_mov rfl rfl) rfl rfl ?_
  refine V_q (q_ia1 rfl Tryz.underlying43 ty77 rfl rfl hrn) rfl rfl ?_
  refine V_l (l_call rfl ent55 rfl (c_mstep L a ln lc n g12 g gl gr gg d ⟨y.s, nxtP L y.p n, y.Ll, y.Lr, y.Lg, y.vw, y.cw⟩ hK hrn (by omega) (by show y.s.es.length ≤ 900; omega)) (by repeat (first | with_reducible exact Pick.nil | apply Pick.cons (by repeat (first | with_reducible exact Sel.head | apply Sel.tail)))) (by repeat (first | with_reducible exact Ins.nil | refine Ins.cons (by repeat (first | with_reducible exact In.head | apply In.tail)) ?_)) (fun _ => (by repeat (first | with_reducible exact App.nil | apply App.cons))) (fun _ => (by repeat (first | with_reducible exact App.nil | apply App.cons)))) rfl rfl ?_; rintro z ⟨hz, hzl⟩
  refine V_next (fun _ => rfl) ?_
  replace hzl : z.s.es.length ≤ y.s.es.length + 1 := hzl
  refine T_reg rfl ?_
  refine V_q (q_mov rfl rfl) rfl rfl ?_
  refine V_q (q_subE ((k - 1 : Nat) : Int) rfl rfl rfl (by omega) (by omega)) rfl rfl ?_
  refine V_q (q_asg rfl rfl) rfl rfl ?_
  refine V_nil ?_
  exact fun w h => ⟨(k - 1, z), ⟨by show k - 1 < k; omega, hz, by show z.s.es.length + (k - 1) ≤ 27; omega⟩, ⟨rfl, rfl, rfl, rfl, rfl, trivial⟩, h.pick (by repeat (first | with_reducible exact Pick.nil | apply Pick.cons (by repeat (first | with_reducible exact Sel.head | apply Sel.tail)))) (by simp)⟩
end Go.Proofs.YtgbhegmhbeekpaaGreat
