/-
  A machine at its beginning.
-/
import Derived.Test.YtgbhegmhbeekpaaGreatZ20
namespace Go.Proofs.YtgbhegmhbeekpaaGreat
open Go
set_option maxRecDepth 100000

theorem devs_snoc : ∀ {l : List Dev} {As : List DA} (x : Dev) (A : DA), As.length = l.length → devs (l ++ [x]) (As ++ [A]) = devs l As ++ devC x A
  | [], [], x, A, _ => by simp [devs]
  | [], _ :: _, _, _, h => by simp at h
  | _ :: _, [], _, _, h => by simp at h
  | y :: l, B :: As, x, A, h => by
    rw [List.cons_append, List.cons_append, devs, devs, devs_snoc x A (by simpa using h), List.append_assoc]
theorem DevsP.snoc {M : List Nat} {w : World} {l : List Dev} {As : List DA} (h : DevsP M w l As) {x : Dev} {A : DA} (h1 : SlP rInst M w x.p A.pa A.pn A.pc) (h2 : SlP rTn M w x.given A.ga A.gn A.gc) (h3 : Mp rTn M w x.regs A.E) : DevsP M w (l ++ [x]) (As ++ [A]) := by
  refine ⟨by simp [h.1], fun d y B e1 e2 => ?_⟩
  rw [List.getElem?_append] at e1 e2
  by_cases hd : d < l.length
  · rw [if_pos hd] at e1
    rw [if_pos (by rw [h.1]; exact hd)] at e2
    exact h.2 d y B e1 e2
  · rw [if_neg hd] at e1
    rw [if_neg (by rw [h.1]; exact hd)] at e2
    have h0 : d - l.length = 0 := by
      have := (List.getElem?_eq_some_iff.1 e1).1
      simp at this; omega
    rw [h0] at e1
    rw [h.1, h0] at e2
    simp only [List.getElem?_cons_zero, Option.some.injEq] at e1 e2
    subst e1; subst e2
    exact ⟨h1, h2, h3⟩
theorem St.unrow {C : Ctx} {own : List Res} {ats : List Atom} {w : World} {e k n c g : Nat} {cs : List Value} (h : St C own ats w) {sp0 : List Value → List Res} (hp : ∀ sp, Put own (rOwn e k (.slice (some ⟨g, 0, none⟩) n c) n cs) (rBlk g e (cs ++ sp)) (sp0 sp)) : ∃ sp, St C (sp0 sp) ats w := by
  obtain ⟨rest, h1, _⟩ := (hp []).perms
  have hown : w.ownsRow 0 e k (.slice (some ⟨g, 0, none⟩) n c) n cs := h.hp.has _ (h1.mem_iff.2 (List.mem_cons_self ..))
  rcases hown.2 with ⟨hv, _⟩ | ⟨g', cap, cur, hv, h1, h2, h3, h4, h5, h6⟩
  · cases hv
  · injection hv with hv1 _ _
    injection hv1 with hv1
    injection hv1 with hg
    subst hg
    refine ⟨cur.toList.drop (n * k), h.put (hp _) (Kept.refl _ _) ?_ (by simp [rBlk]) (fun b hb => .inl (by simpa [rOwn, rBlk, Value.ownBlock] using hb))⟩
    show w.heap[g]? = _
    rw [h2]
    congr 2
    rw [← h6, List.take_append_drop]

def mkDev (l : List (List Inst)) (given : List (List Tn)) (d : Nat) : List Dev := (List.range d).map fun j => ⟨l.getD j [], 0, [], given.getD j []⟩
theorem mkDev_succ (l : List (List Inst)) (given : List (List Tn)) (d : Nat) : mkDev l given (d + 1) = mkDev l given d ++ [⟨l.getD d [], 0, [], given.getD d []⟩] := by
  unfold mkDev; rw [List.range_succ, List.map_append]; rfl
theorem mkDev_len (l : List (List Inst)) (given : List (List Tn)) (d : Nat) : (mkDev l given d).length = d := by simp [mkDev]

theorem c_New' (l : List (List Inst)) (given : List (List Tn)) (n : Nat) (hn : 1 ≤ n ∧ n ≤ 8) (hll : l.length = n) (hgl : given.length = n) (hl : ∀ p ∈ l, p.length ≤ 65536 ∧ PrOk n p ∧ ∀ i ∈ p, Sm i) (hg : ∀ g ∈ given, g.length ≤ 100000 ∧ ∀ t ∈ g, tnOk t = true) (a b : Option Addr) (c d : Nat) :
    Con Tryz.prog 24 #[.slice a n c, .slice b n d] [] [aSl (rSl rInst) l a n c, aSl (rSl rTn) given b n d]
    (fun _ : MacA => True) (fun y => .tuple #[.pointer (some ⟨y.g, 0, none⟩), .int .i64 0]) (fun y => macO n ⟨mkDev l given n, [], 0⟩ y) (fun y => macF ⟨mkDev l given n, [], 0⟩ y) := by
  refine con_of (n := 69) Tryz.func24 rfl rfl rfl (by simp) ?_
  intro C hC
  refine T_seq (T_reg rfl ?_)
  refine V_q (q_asg rfl rfl) rfl rfl ?_
  refine V_q (q_asg rfl rfl) rfl rfl ?_
  refine V_next (fun _ => rfl) ?_
  refine T_seq ?_
  refine T_seq (T_reg rfl ?_)
  refine V_q (q_mov rfl rfl) rfl rfl ?_
  refine V_l (l_call rfl ent57 rfl (c_codeRight l (by omega) (fun p hp => ⟨(hl p hp).1, by rw [hll]; exact (hl p hp).2.1⟩) a n c) (by repeat (first | with_reducible exact Pick.nil | apply Pick.cons (by repeat (first | with_reducible exact Sel.head | apply Sel.tail)))) (by repeat (first | with_reducible exact Ins.nil | refine Ins.cons (by repeat (first | with_reducible exact In.head | apply In.tail)) ?_)) (fun _ => (by repeat (first | with_reducible exact App.nil | apply App.cons))) (fun _ => (by repeat (first | with_reducible exact App.nil | apply App.cons)))) rfl rfl ?_; rintro g14 -
  refine V_q (q_asg rfl rfl) rfl rfl ?_
  refine V_next (fun _ => rfl) ?_
  refine T_seq (T_reg rfl ?_)
  refine V_q (q_mov rfl rfl) rfl rfl ?_
  refine V_q (q_ne rfl rfl rfl) rfl rfl ?_
  refine V_next (fun _ => rfl) ?_
  refine T_cond rfl (fun hb => ?_) (fun hb => ?_)
  · simp at hb
  refine T_skip_next (fun _ => rfl) ?_
  refine T_seq ?_
  refine T_seq (T_reg rfl ?_)
  refine V_q (q_mov rfl rfl) rfl rfl ?_
  refine V_q (q_len rfl Tryz.underlying43 rfl) rfl rfl ?_
  refine V_q (q_mov rfl rfl) rfl rfl ?_
  refine V_q (q_len rfl Tryz.underlying42 rfl) rfl rfl ?_
  refine V_q (q_ne rfl rfl rfl) rfl rfl ?_
  refine V_next (fun _ => rfl) ?_
  rw [decide_eq_false (show ¬ (n : Int) ≠ n by simp)]
  refine T_cond rfl (fun hb => ?_) (fun hb => ?_)
  · cases hb
  refine T_skip_next (fun _ => rfl) ?_
  refine T_seq (T_reg rfl ?_)
  refine V_l (l_call rfl ent58 rfl (c_New) (by repeat (first | with_reducible exact Pick.nil | apply Pick.cons (by repeat (first | with_reducible exact Sel.head | apply Sel.tail)))) (by repeat (first | with_reducible exact Ins.nil | refine Ins.cons (by repeat (first | with_reducible exact In.head | apply In.tail)) ?_)) (fun _ => (by repeat (first | with_reducible exact App.nil | apply App.cons))) (fun _ => (by repeat (first | with_reducible exact App.nil | apply App.cons)))) rfl rfl ?_; rintro ⟨gb, rb⟩ -
  refine V_q (q_buildS rfl pl104 tz104 rfl rfl (by repeat (first | exact FillL.nil | apply FillL.cons rfl rfl (by repeat (first | exact PutL.z | apply PutL.s | apply PutL.t))))) rfl rfl ?_
  refine V_l (l_boxA rfl rfl) rfl rfl ?_; rintro g25 -
  refine V_q (q_asg rfl rfl) rfl rfl ?_
  refine V_next (fun _ => rfl) ?_
  refine T_seq ?_
  refine T_seq (T_reg rfl ?_)
  refine V_q (q_mov rfl rfl) rfl rfl ?_
  refine V_l (l_call rfl ent59 rfl (c_codeCopy l a n c (by omega) (fun p hp => ⟨Nat.le_trans (hl p hp).1 (by omega), (hl p hp).2.2⟩)) (by repeat (first | with_reducible exact Pick.nil | apply Pick.cons (by repeat (first | with_reducible exact Sel.head | apply Sel.tail)))) (by repeat (first | with_reducible exact Ins.nil | refine Ins.cons (by repeat (first | with_reducible exact In.head | apply In.tail)) ?_)) (fun _ => (by repeat (first | with_reducible exact App.nil | apply App.cons))) (fun _ => (by repeat (first | with_reducible exact App.nil | apply App.cons)))) rfl rfl ?_; rintro lp -
  refine V_q (q_len rfl Tryz.underlying42 rfl) rfl rfl ?_
  refine V_q (q_mov rfl rfl) rfl rfl ?_
  refine V_next (fun _ => rfl) ?_
  refine T_block ?_
  refine T_ghost (fun w h => (h.rowNil 108 5).allNone) ?_
  refine T_loop (fun y : Nat × (Option Addr × Nat) × List DA => [(1, .slice b n d), (7, .pointer (some ⟨g25, 0, none⟩)), (27, .slice (some ⟨lp, 0, none⟩) n n), (28, .int .i64 n), (29, .int .i64 y.1)])
    (fun y => [rOwn 108 5 (.slice y.2.1.1 y.1 y.2.1.2) y.1 (devs (mkDev l given y.1) y.2.2), rBlk g25 104 [.slice y.2.1.1 y.1 y.2.1.2, .pointer (some ⟨gb, 0, none⟩), .int .i64 ((0 : Nat) : Int)], rBlk gb 137 [.map (some rb)], rMap κ3 rb [], rAll (y.2.2.map rDA)])
    (fun y => [aDevs (mkDev l given y.1) y.2.2, aMp (K := Key3) rTn [] [], aSl (rSl rInst) l (some ⟨lp, 0, none⟩) n n, aSl (rSl rTn) given b n d]) (fun y => y.1 ≤ n) (fun y => n - y.1) (0, (none, 0), []) (Nat.zero_le _) ⟨rfl, rfl, rfl, rfl, rfl, trivial⟩ (fun w h => ?_) ?_
  · have h1 := h.know (aDevs [] []) ⟨rfl, fun d x A h _ => by simp at h⟩
    have h2 : St C [rAll [], rOwn 108 5 (.slice none 0 0) 0 [], rBlk g25 104 [.slice none 0 0, .pointer (some ⟨gb, 0, none⟩), .int .i64 ((0 : Nat) : Int)], rBlk gb 137 [.map (some rb)], rMap κ3 rb []] _ w := h1
    show St C [rOwn 108 5 (.slice none 0 0) 0 [], rBlk g25 104 [.slice none 0 0, .pointer (some ⟨gb, 0, none⟩), .int .i64 ((0 : Nat) : Int)], rBlk gb 137 [.map (some rb)], rMap κ3 rb [], rAll []] [aDevs [] [], aMp (K := Key3) rTn [] [], aSl (rSl rInst) l (some ⟨lp, 0, none⟩) n n, aSl (rSl rTn) given b n d] w
    exact h2.pick (by repeat (first | with_reducible exact Pick.nil | apply Pick.cons (by repeat (first | with_reducible exact Sel.head | apply Sel.tail)))) (by simp)
  rintro ⟨k, ⟨va, vc⟩, As⟩ hk
  replace hk : k ≤ n := hk
  refine T_seq (T_reg rfl ?_)
  refine V_q (q_lt rfl rfl rfl) rfl rfl ?_
  refine V_next (fun _ => rfl) ?_
  refine T_seq ?_
  refine T_cond rfl (fun hb => ?_) (fun hb => ?_)
  rotate_left
  · have hie : k = n := by
      have : ¬ (k : Int) < n := by simpa using hb
      omega
    subst hie
    refine T_exit_next (fun _ => rfl) ?_
    refine T_own (e := 108) (k := 5) (v := .slice va k vc) (n := k) (cs := devs (mkDev l given k) As) (by repeat (first | with_reducible exact Sel.head | apply Sel.tail)) (by omega) fun gl c' hv => ?_
    injection hv with e1 e2 e3
    subst e1; subst e3
    refine T_ghostE (own' := fun sp => _) (ats' := fun _ => _) (fun _ => True) (fun w h => (St.unrow (e := 108) (k := 5) (g := gl) (n := k) (c := vc) (cs := devs (mkDev l given k) As) h (fun sp => (by repeat (first | with_reducible exact Put.head | apply Put.tail)))).imp fun sp h => ⟨trivial, h⟩) fun sp _ => ?_
    refine T_seq (T_reg rfl ?_)
    refine V_q (q_mov rfl rfl) rfl rfl ?_
    refine V_q (q_asg rfl rfl) rfl rfl ?_
    refine V_q (q_asg rfl rfl) rfl rfl ?_
    refine V_next (fun _ => rfl) ?_
    exact T_ret fun w h => ⟨_, res_2 rfl rfl, ⟨g25, gl, gb, rb, vc, sp, As, []⟩, trivial, rfl, h.pick (by repeat (first | with_reducible exact Pick.nil | apply Pick.cons (by repeat (first | with_reducible exact Sel.head | apply Sel.tail)))) (by simp)⟩
  have hin : k < n := by
    have : (k : Int) < n := by simpa using hb
    omega
  clear hb
  refine T_el1 k rfl (xs := l) (a := some ⟨lp, 0, none⟩) (n := n) (c := n) (by repeat (first | with_reducible exact In.head | apply In.tail)) hin fun p ad v hx had => ?_
  refine T_elSl (by repeat (first | with_reducible exact In.head | apply In.tail)) fun pa pn pc hv => ?_
  subst hv
  refine T_el1 k rfl (xs := given) (a := b) (n := n) (c := d) (by repeat (first | with_reducible exact In.head | apply In.tail)) hin fun G adg vg hG hadg => ?_
  refine T_elSl (by repeat (first | with_reducible exact In.head | apply In.tail)) fun ga gn gc hv => ?_
  subst hv
  refine T_pure (φ := gn = G.length ∧ As.length = k) (fun w h => ⟨(sl_len h (xs := G) (a := ga) (n := gn) (c := gc) (by repeat (first | with_reducible exact In.head | apply In.tail))).1, by have := (show DevsP _ w (mkDev l given k) As from h.atom (A := aDevs (mkDev l given k) As) (by repeat (first | with_reducible exact In.head | apply In.tail))).1; rwa [mkDev_len] at this⟩) (fun hln => ?_)
  obtain ⟨hgn, hAs⟩ := hln
  have hGo := hg G (List.mem_of_getElem? hG)
  refine T_skip_next (fun _ => rfl) ?_
  refine T_seq ?_
  refine T_block ?_
  refine T_seq (T_reg rfl ?_)
  refine V_q (q_mov rfl rfl) rfl rfl ?_
  refine V_q (q_iaE rfl Tryz.underlying42 ty63 rfl rfl hin had) rfl rfl ?_
  refine V_q (q_ldR0 rfl ty63 rfl (by repeat (first | with_reducible exact In.head | apply In.tail))) rfl rfl ?_
  refine V_q (q_asg rfl rfl) rfl rfl ?_
  refine V_q (q_asg rfl rfl) rfl rfl ?_
  refine V_next (fun _ => rfl) ?_
  refine T_seq (T_reg rfl ?_)
  refine V_q (q_mov rfl rfl) rfl rfl ?_
  refine V_l (l_mkmap kI rfl) rfl rfl ?_; rintro r -
  refine V_q (q_buildS rfl pl108 tz108 rfl rfl (by repeat (first | exact FillL.nil | apply FillL.cons rfl rfl (by repeat (first | exact PutL.z | apply PutL.s | apply PutL.t))))) rfl rfl ?_
  refine V_l (l_alloc (cs := [.slice none 0 0, .int .i64 0, .map none, .slice none 0 0, .int .i64 0]) rfl tz108 rfl) rfl rfl ?_; rintro g10 -
  refine V_n (l_st rfl ty108 rfl rfl rfl rfl rfl (by repeat (first | with_reducible exact Put.head | apply Put.tail)) (by repeat (first | exact PutL.z | apply PutL.s | apply PutL.t))) rfl rfl ?_; rintro ⟨⟩ -
  refine V_next (fun _ => rfl) ?_
  refine T_seq ?_
  refine T_seq (T_reg rfl ?_)
  refine V_q (q_mov rfl rfl) rfl rfl ?_
  refine V_q (q_mov rfl rfl) rfl rfl ?_
  refine V_q (q_iaE rfl Tryz.underlying43 ty77 rfl rfl hin hadg) rfl rfl ?_
  refine V_q (q_ldR0 rfl ty77 rfl (by repeat (first | with_reducible exact In.head | apply In.tail))) rfl rfl ?_
  refine V_q (q_len rfl Tryz.underlying77 rfl) rfl rfl ?_
  refine V_q (q_mov rfl rfl) rfl rfl ?_
  refine V_next (fun _ => rfl) ?_
  refine T_block ?_
  refine T_ghost (fun w h => h.rowNil 28 2) ?_
  refine T_loop (fun y : Nat × (Option Addr × Nat) × List Value => [(1, .slice b n d), (7, .pointer (some ⟨g25, 0, none⟩)), (10, .pointer (some ⟨g10, 0, none⟩)), (27, .slice (some ⟨lp, 0, none⟩) n n), (28, .int .i64 n), (29, .int .i64 k), (40, .slice ga gn gc), (41, .int .i64 gn), (42, .int .i64 y.1)])
    (fun y => [rOwn 28 2 (.slice y.2.1.1 y.1 y.2.1.2) y.1 y.2.2, rBlk g10 108 [.slice pa pn pc, .int .i64 0, .map (some r), .slice y.2.1.1 y.1 y.2.1.2, .int .i64 0], rMap kI r [], rOwn 108 5 (.slice va k vc) k (devs (mkDev l given k) As), rBlk g25 104 [.slice va k vc, .pointer (some ⟨gb, 0, none⟩), .int .i64 ((0 : Nat) : Int)], rBlk gb 137 [.map (some rb)], rMap κ3 rb [], rAll (As.map rDA)])
    (fun y => [aEv rTn (G.take y.1) y.2.2, aSl rTn G ga gn gc, aSl rInst p pa pn pc, aDevs (mkDev l given k) As, aMp (K := Key3) rTn [] [], aSl (rSl rInst) l (some ⟨lp, 0, none⟩) n n, aSl (rSl rTn) given b n d]) (fun y => y.1 ≤ gn) (fun y => gn - y.1) (0, (none, 0), []) (Nat.zero_le _) ⟨rfl, rfl, rfl, rfl, rfl, rfl, rfl, rfl, rfl, trivial⟩ (fun w h => (h.know (aEv rTn (G.take 0) []) (EvP.nil _ _ _)).pick (by repeat (first | with_reducible exact Pick.nil | apply Pick.cons (by repeat (first | with_reducible exact Sel.head | apply Sel.tail)))) (by simp)) ?_
  rintro ⟨i, ⟨ua, uc⟩, cs⟩ hi
  replace hi : i ≤ gn := hi
  refine T_seq (T_reg rfl ?_)
  refine V_q (q_lt rfl rfl rfl) rfl rfl ?_
  refine V_next (fun _ => rfl) ?_
  refine T_seq ?_
  refine T_cond rfl (fun hb => ?_) (fun hb => ?_)
  rotate_left
  · have hie : i = gn := by
      have : ¬ (i : Int) < gn := by simpa using hb
      omega
    subst hie
    refine T_exit_next (fun _ => rfl) ?_
    have htk : G.take i = G := List.take_of_length_le (by omega)
    rw [htk]
    refine T_seal rTn (e := 28) (k := 2) rfl (by decide) (xs := G) (v := .slice ua i uc) (n := i) (cs := cs) (by repeat (first | with_reducible exact Sel.head | apply Sel.tail)) In.head fun a1 c1 hv => ?_
    injection hv with e1 e2 e3
    subst e1; subst e3
    refine T_drawn hmix (.pure 0 <| .pure 1 <| .pure 2 <| .pure 3 <| .quiet 4 <| .quiet 5 <| .loud 6 <| .loud 7 <| .pure 8 <| .pure 9 <| .bar 10 <| .fin) (by decide +kernel) ?_
    refine W_p rfl (q_mov rfl rfl) rfl rfl ?_
    refine W_p rfl (q_mov rfl rfl) rfl rfl ?_
    refine W_p rfl (q_nil rfl rfl) rfl rfl ?_
    refine W_p rfl (q_fa rfl fd104_0 rfl) rfl rfl ?_
    refine W_ld rfl rfl ty102 rfl (by repeat (first | with_reducible exact Sel.head | apply Sel.tail)) rfl rfl rfl ?_
    refine W_ldA rfl rfl ty108 rfl (by repeat (first | with_reducible exact Sel.head | apply Sel.tail)) (by repeat (first | exact SubL.z | apply SubL.s | apply SubL.t)) rfl rfl ?_
    refine W_l rfl (l_bs [.slice none 0 0, .int .i64 0, .map none, .slice none 0 0, .int .i64 0] rfl Tryz.underlying102 ty108 tz108 (by decide) rfl rfl rfl (by repeat (first | exact FillL.nil | apply FillL.cons rfl rfl (by repeat (first | exact PutL.z | apply PutL.s | apply PutL.t))))) (fun _ _ h => by repeat (first | exact trivial | refine ⟨?_, h.weak (by repeat (first | exact List.Sublist.refl _ | exact List.nil_sublist _ | with_reducible apply List.Sublist.cons_cons | apply List.Sublist.cons)) (by simp +contextual)⟩)) rfl rfl ?_; rintro g63 -
    refine W_l rfl (l_appBs rfl Tryz.underlying102 ty108 tz108 tb108 rfl (by decide) rfl rfl (by repeat (first | with_reducible exact Sel.head | apply Sel.tail)) (fun _ => (by repeat (first | with_reducible exact Put.head | apply Put.tail))) rfl rfl (by simp [maxLen]; omega) (by first | omega | (simp; omega))) (fun _ _ h => by repeat (first | exact trivial | refine ⟨?_, h.weak (by repeat (first | exact List.Sublist.refl _ | exact List.nil_sublist _ | with_reducible apply List.Sublist.cons_cons | apply List.Sublist.cons)) (by simp +contextual)⟩)) rfl rfl ?_; rintro ⟨na, nc⟩ -
    refine W_p rfl (q_nil rfl rfl) rfl rfl ?_
    refine W_p rfl (q_fa rfl fd104_0 rfl) rfl rfl ?_
    refine W_bn rfl (l_st rfl ty102 rfl rfl rfl rfl rfl (by repeat (first | with_reducible exact Put.head | apply Put.tail)) (by repeat (first | exact PutL.z | apply PutL.s | apply PutL.t))) rfl rfl ?_; rintro ⟨⟩ -
    refine W_next (fun _ => rfl) ?_
    refine T_reg rfl ?_
    refine V_q (q_addI rfl rfl rfl (by omega)) rfl rfl ?_
    refine V_q (q_mov rfl rfl) rfl rfl ?_
    refine V_nil ?_
    intro w h
    have hl1 : l.getD k [] = p := by rw [List.getD_eq_getElem?_getD, hx]; rfl
    have hg1 : given.getD k [] = G := by rw [List.getD_eq_getElem?_getD, hG]; rfl
    have hmk := mkDev_succ l given k
    rw [hl1, hg1] at hmk
    have q : DevsP _ w (mkDev l given k) As := h.atom (A := aDevs (mkDev l given k) As) (by repeat (first | with_reducible exact In.head | apply In.tail))
    have h1 := h.know (aDevs (mkDev l given (k + 1)) (As ++ [⟨pa, pn, pc, ua, i, uc, r, []⟩])) (by
      rw [hmk]
      exact q.snoc (x := ⟨p, 0, [], G⟩) (A := ⟨pa, pn, pc, ua, i, uc, r, []⟩) (h.atom (A := aSl rInst p pa pn pc) (by repeat (first | with_reducible exact In.head | apply In.tail))) (h.atom (A := aSl rTn G ua i uc) (by repeat (first | with_reducible exact In.head | apply In.tail))) .nil)
    have hd' : devs (mkDev l given (k + 1)) (As ++ [⟨pa, pn, pc, ua, i, uc, r, []⟩]) = devs (mkDev l given k) As ++ [.slice pa pn pc, .int .i64 0, .map (some r), .slice ua i uc, .int .i64 0] := by
      rw [hmk, devs_snoc _ _ (by rw [mkDev_len]; exact hAs)]; rfl
    have h2 := h1.push (l := As.map rDA) (r := rMap kI r []) (by repeat (first | with_reducible exact Pick.nil | apply Pick.cons (by repeat (first | with_reducible exact Sel.head | apply Sel.tail))))
    refine ⟨(k + 1, (na, nc), As ++ [⟨pa, pn, pc, ua, i, uc, r, []⟩]), ⟨by show n - (k + 1) < n - k; omega, by show k + 1 ≤ n; omega⟩, ⟨rfl, rfl, rfl, rfl, rfl, trivial⟩, ?_⟩
    simp only [hd', List.map_append, List.map_cons, List.map_nil]
    exact h2.pick (by repeat (first | with_reducible exact Pick.nil | apply Pick.cons (by repeat (first | with_reducible exact Sel.head | apply Sel.tail)))) (by simp)
  have hig : i < gn := by
    have : (i : Int) < gn := by simpa using hb
    omega
  clear hb
  refine T_tn i (xs := G) (a := ga) (n := gn) (c := gc) (by repeat (first | with_reducible exact In.head | apply In.tail)) hig fun t adt ra rn rc sa' sn sc ht hadt => ?_
  have hto := hGo.2 t (List.mem_of_getElem? ht)
  have ct := c_tensorRight t ra sa' rn rc sn sc
  rw [hto] at ct
  have htl := tnOk_len hto
  refine T_pure (φ := rn * 8 ≤ 140737488355328 ∧ sn * 8 ≤ 140737488355328) (fun w h => ?_) (fun hx2 => ?_)
  · have l0 := (sl_len h (xs := t.sh) (a := ra) (n := rn) (c := rc) (by repeat (first | with_reducible exact In.head | apply In.tail))).1
    have l1 := (sl_len h (xs := t.da) (a := sa') (n := sn) (c := sc) (by repeat (first | with_reducible exact In.head | apply In.tail))).1
    omega
  refine T_skip_next (fun _ => rfl) ?_
  refine T_seq ?_
  refine T_block ?_
  refine T_seq (T_reg rfl ?_)
  refine V_q (q_iaE rfl Tryz.underlying77 ty28 rfl rfl hig hadt) rfl rfl ?_
  refine V_q (q_ldRA rfl ty28 rfl rfl (by repeat (first | with_reducible exact In.head | apply In.tail))) rfl rfl ?_
  refine V_l (l_alloc (cs := [.slice none 0 0, .slice none 0 0]) rfl tz28 rfl) rfl rfl ?_; rintro g12 -
  refine V_n (l_st rfl ty28 rfl rfl rfl rfl rfl (by repeat (first | with_reducible exact Put.head | apply Put.tail)) (by repeat (first | exact PutL.z | apply PutL.s | apply PutL.t))) rfl rfl ?_; rintro ⟨⟩ -
  refine V_next (fun _ => rfl) ?_
  refine T_seq ?_
  refine T_seq (T_reg rfl ?_)
  refine V_q (q_ldA rfl ty28 rfl (by repeat (first | with_reducible exact Sel.head | apply Sel.tail)) (by repeat (first | exact SubL.z | apply SubL.s | apply SubL.t))) rfl rfl ?_
  refine V_l (l_call rfl ent60 rfl (ct) (by repeat (first | with_reducible exact Pick.nil | apply Pick.cons (by repeat (first | with_reducible exact Sel.head | apply Sel.tail)))) (by repeat (first | with_reducible exact Ins.nil | refine Ins.cons (by repeat (first | with_reducible exact In.head | apply In.tail)) ?_)) (fun _ => (by repeat (first | with_reducible exact App.nil | apply App.cons))) (fun _ => (by repeat (first | with_reducible exact App.nil | apply App.cons)))) rfl rfl ?_; rintro g47 -
  refine V_q (q_not rfl rfl) rfl rfl ?_
  refine V_next (fun _ => rfl) ?_
  refine T_cond rfl (fun hb => ?_) (fun hb => ?_)
  · cases hb
  refine T_skip_next (fun _ => rfl) ?_
  refine T_drawn hmix (.pure 0 <| .quiet 1 <| .quiet 2 <| .loud 3 <| .loud 4 <| .loud 5 <| .pure 6 <| .bar 7 <| .fin) (by decide +kernel) ?_
  refine W_p rfl (q_fa rfl fd108_3 rfl) rfl rfl ?_
  refine W_ld rfl rfl ty77 rfl (by repeat (first | with_reducible exact Sel.head | apply Sel.tail)) rfl rfl rfl ?_
  refine W_ldA rfl rfl ty28 rfl (by repeat (first | with_reducible exact Sel.head | apply Sel.tail)) (by repeat (first | exact SubL.z | apply SubL.s | apply SubL.t)) rfl rfl ?_
  refine W_l rfl (l_call rfl ent61 rfl (c_Copy t.sh t.da ra sa' rn rc sn sc hx2.1 hx2.2) (by repeat (first | with_reducible exact Pick.nil | apply Pick.cons (by repeat (first | with_reducible exact Sel.head | apply Sel.tail)))) (by repeat (first | with_reducible exact Ins.nil | refine Ins.cons (by repeat (first | with_reducible exact In.head | apply In.tail)) ?_)) (fun _ => (by repeat (first | with_reducible exact App.nil | apply App.cons))) (fun _ => (by repeat (first | with_reducible exact App.nil | apply App.cons)))) (fun _ _ h => by repeat (first | exact trivial | refine ⟨?_, h.weak (by repeat (first | exact List.Sublist.refl _ | exact List.nil_sublist _ | with_reducible apply List.Sublist.cons_cons | apply List.Sublist.cons)) (by simp +contextual)⟩)) rfl rfl ?_; rintro ⟨⟨ya, yc⟩, za, zc⟩ -
  refine W_l rfl (l_bs [.slice none 0 0, .slice none 0 0] rfl Tryz.underlying77 ty28 tz28 (by decide) rfl rfl rfl (by repeat (first | exact FillL.nil | apply FillL.cons rfl rfl (by repeat (first | exact PutL.z | apply PutL.s | apply PutL.t))))) (fun _ _ h => by repeat (first | exact trivial | refine ⟨?_, h.weak (by repeat (first | exact List.Sublist.refl _ | exact List.nil_sublist _ | with_reducible apply List.Sublist.cons_cons | apply List.Sublist.cons)) (by simp +contextual)⟩)) rfl rfl ?_; rintro g53 -
  refine W_l rfl (l_appBs rfl Tryz.underlying77 ty28 tz28 tb28 rfl (by decide) rfl rfl (by repeat (first | with_reducible exact Sel.head | apply Sel.tail)) (fun _ => (by repeat (first | with_reducible exact Put.head | apply Put.tail))) rfl rfl (by simp [maxLen]; omega) (by first | omega | (simp; omega))) (fun _ _ h => by repeat (first | exact trivial | refine ⟨?_, h.weak (by repeat (first | exact List.Sublist.refl _ | exact List.nil_sublist _ | with_reducible apply List.Sublist.cons_cons | apply List.Sublist.cons)) (by simp +contextual)⟩)) rfl rfl ?_; rintro ⟨ma, mc⟩ -
  refine W_p rfl (q_fa rfl fd108_3 rfl) rfl rfl ?_
  refine W_bn rfl (l_st rfl ty77 rfl rfl rfl rfl rfl (by repeat (first | with_reducible exact Put.head | apply Put.tail)) (by repeat (first | exact PutL.z | apply PutL.s | apply PutL.t))) rfl rfl ?_; rintro ⟨⟩ -
  refine W_next (fun _ => rfl) ?_
  refine T_reg rfl ?_
  refine V_q (q_addI rfl rfl rfl (by omega)) rfl rfl ?_
  refine V_q (q_mov rfl rfl) rfl rfl ?_
  refine V_nil ?_
  intro w h
  have het : G.take (i + 1) = G.take i ++ [t] := by rw [List.take_add_one, ht]; rfl
  have h2 := h.know (aEv rTn (G.take (i + 1)) (cs ++ [.slice ya rn yc, .slice za sn zc])) (show EvP rTn _ _ _ _ from by
    rw [het]
    exact EvP.snoc (show EvP rTn _ _ _ _ from h.atom (A := aEv rTn (G.take i) cs) (by repeat (first | with_reducible exact In.head | apply In.tail))) ⟨ya, rn, yc, za, sn, zc, rfl, h.atom (A := aSl I t.sh ya rn yc) (by repeat (first | with_reducible exact In.head | apply In.tail)), h.atom (A := aSl I t.da za sn zc) (by repeat (first | with_reducible exact In.head | apply In.tail))⟩)
  exact ⟨(i + 1, (ma, mc), cs ++ [.slice ya rn yc, .slice za sn zc]), ⟨by show gn - (i + 1) < gn - i; omega, by show i + 1 ≤ gn; omega⟩, ⟨rfl, rfl, rfl, rfl, rfl, rfl, rfl, rfl, rfl, trivial⟩, h2.pick (by repeat (first | with_reducible exact Pick.nil | apply Pick.cons (by repeat (first | with_reducible exact Sel.head | apply Sel.tail)))) (by simp)⟩
end Go.Proofs.YtgbhegmhbeekpaaGreat
