/-
  The statements' maker of programs.
-/
import Derived.Test.YtgbhegmhbeekpaaGreatN4
import Derived.Test.YtgbhegmhbeekpaaGreatFrRows
namespace Go.Proofs.YtgbhegmhbeekpaaGreat
open Go
set_option maxRecDepth 100000

abbrev instC (i : Inst) (out : Int) (a0 : Option Addr) (n0 c0 : Nat) (a1 : Option Addr) (n1 c1 : Nat) (a2 : Option Addr) (n2 c2 : Nat) (a3 : Option Addr) (n3 c3 : Nat) : List Value :=
  [.int .i64 i.kind, .int .i64 out, .slice a0 n0 c0, .int .i64 i.node.op, .slice a1 n1 c1, .slice a2 n2 c2, .slice a3 n3 c3, .int .i64 i.node.n, .int .i64 i.node.how, .string i.node.note, .int .i64 i.n, .int .i64 i.dev, .int .i64 i.tag]

theorem evs_row {α : Type} {R : Rep α} {C : Ctx} {own : List Res} {ats : List Atom} {w : World} {xss : List (List α)} {L : List RowT} {d : Nat} (h : St C own ats w) (hs : In (aEvs R xss L) ats) (hd : d < xss.length) : ∃ xs v cs, xss[d]? = some xs ∧ L[d]? = some (v, xs.length, cs) := by
  obtain ⟨xs, v, cs, h1, h2, _⟩ := (show EvsP R _ w xss L from h.atom hs).get hd
  exact ⟨xs, v, cs, h1, h2⟩
theorem evs_len {α : Type} {R : Rep α} {C : Ctx} {own : List Res} {ats : List Atom} {w : World} {xss : List (List α)} {L : List RowT} (h : St C own ats w) (hs : In (aEvs R xss L) ats) : L.length = xss.length := (show EvsP R _ w xss L from h.atom hs).1

theorem c_mputR (PL : List (List Inst)) (RL : List (List (List Int))) (Ll Lr : List RowT) (g gl gr n d : Nat) (vw tg : Value) (i : Inst) (s : List Int) (a0 a1 a2 a3 b : Option Addr) (n0 c0 n1 c1 n2 c2 n3 c3 m c : Nat)
    (hd : d < n) (hP : PL.length = n) (hR : RL.length = n) (hk : i.kind ≠ 3) (hPb : (PL.getD d []).length ≤ 100000) (hRb : (RL.getD d []).length ≤ 100000) :
    Con Tryz.prog 82 #[.pointer (some ⟨g, 0, none⟩), .int .i64 d, .agg (instC i i.out a0 n0 c0 a1 n1 c1 a2 n2 c2 a3 n3 c3).toArray, .slice b m c]
    [rBlk g 96 [.slice (some ⟨gl, 0, none⟩) n n, .slice (some ⟨gr, 0, none⟩) n n, vw, tg], rBlk gl 63 (Ll.map (·.1)), rAll (Ll.map (rRow 112 13)), rBlk gr 86 (Lr.map (·.1)), rAll (Lr.map (rRow 22 1))]
    [aEvs rInst PL Ll, aEvs (rSl I) RL Lr, aSl I i.inn a0 n0 c0, aSl I i.node.inn a1 n1 c1, aSl I i.node.sh a2 n2 c2, aSl I i.node.a a3 n3 c3, aSl I s b m c]
    (fun _ : List RowT × List RowT => True) (fun _ => .tuple #[])
    (fun y => [rBlk g 96 [.slice (some ⟨gl, 0, none⟩) n n, .slice (some ⟨gr, 0, none⟩) n n, vw, tg], rBlk gl 63 (y.1.map (·.1)), rAll (y.1.map (rRow 112 13)), rBlk gr 86 (y.2.map (·.1)), rAll (y.2.map (rRow 22 1))])
    (fun y => [aEvs rInst (PL.set d (PL.getD d [] ++ [{ i with out := (RL.getD d []).length }])) y.1, aEvs (rSl I) (RL.set d (RL.getD d [] ++ [s])) y.2]) := by
  refine con_of (n := 52) Tryz.func82 rfl rfl rfl (by simp) ?_
  intro C hC
  refine T_pure (φ := (∃ P v cs, PL[d]? = some P ∧ Ll[d]? = some (v, P.length, cs)) ∧ (∃ Q u ds, RL[d]? = some Q ∧ Lr[d]? = some (u, Q.length, ds)) ∧ Ll.length = n ∧ Lr.length = n)
    (fun w h => ⟨evs_row h (xss := PL) (L := Ll) (by repeat (first | with_reducible exact In.head | apply In.tail)) (by omega), evs_row h (xss := RL) (L := Lr) (by repeat (first | with_reducible exact In.head | apply In.tail)) (by omega), by rw [evs_len h (xss := PL) (by repeat (first | with_reducible exact In.head | apply In.tail)), hP], by rw [evs_len h (xss := RL) (by repeat (first | with_reducible exact In.head | apply In.tail)), hR]⟩) (fun hx => ?_)
  obtain ⟨⟨P, v, cs, hPd, hL⟩, ⟨Q, u, ds, hQ, hLr⟩, hLl, hLrl⟩ := hx
  have eP : PL.getD d [] = P := by rw [List.getD_eq_getElem?_getD, hPd]; rfl
  have eQ : RL.getD d [] = Q := by rw [List.getD_eq_getElem?_getD, hQ]; rfl
  rw [eP] at hPb; rw [eQ] at hRb
  refine T_ghost (fun w h => h.rowOut (L := Lr) (by repeat (first | with_reducible exact Sel.head | apply Sel.tail)) hLr) ?_
  refine T_slice (e := 22) (k := 1) (v := u) (n := Q.length) (cs := ds) (by repeat (first | with_reducible exact Sel.head | apply Sel.tail)) fun a1' c1' hu => ?_
  subst hu
  refine T_seq (T_reg rfl ?_)
  refine V_l (l_boxA rfl rfl) rfl rfl ?_; rintro g6 -
  refine V_next (fun _ => rfl) ?_
  refine T_seq ?_
  refine T_seq (T_reg rfl ?_)
  refine V_q (q_fa rfl fd112_0 rfl) rfl rfl ?_
  refine V_q (q_ld rfl ty3 rfl (by repeat (first | with_reducible exact Sel.head | apply Sel.tail)) rfl) rfl rfl ?_
  refine V_q (q_ne rfl rfl rfl) rfl rfl ?_
  refine V_next (fun _ => rfl) ?_
  refine T_cond rfl (fun hb => ?_) (fun hb => ?_)
  rotate_left
  · exact absurd (by simpa using hb) hk
  refine T_seq (T_reg rfl ?_)
  refine V_q (q_mov rfl rfl) rfl rfl ?_
  refine V_q (q_nil rfl rfl) rfl rfl ?_
  refine V_q (q_fa rfl fd96_1 rfl) rfl rfl ?_
  refine V_q (q_ld rfl ty94 rfl (by repeat (first | with_reducible exact Sel.head | apply Sel.tail)) rfl) rfl rfl ?_
  refine V_q (q_mov rfl rfl) rfl rfl ?_
  refine V_q (q_ia1 rfl Tryz.underlying94 ty86 rfl rfl hd) rfl rfl ?_
  refine V_q (q_ld rfl ty86 rfl (by repeat (first | with_reducible exact Sel.head | apply Sel.tail)) (nth_row hLr)) rfl rfl ?_
  refine V_q (q_len rfl Tryz.underlying86 rfl) rfl rfl ?_
  refine V_q (q_fa rfl fd112_1 rfl) rfl rfl ?_
  refine V_n (l_st rfl ty3 rfl rfl rfl rfl rfl (by repeat (first | with_reducible exact Put.head | apply Put.tail)) (by repeat (first | exact PutL.z | apply PutL.s | apply PutL.t))) rfl rfl ?_; rintro ⟨⟩ -
  refine V_next (fun _ => rfl) ?_
  refine T_drawn hmix (.pure 0 <| .pure 1 <| .pure 2 <| .quiet 3 <| .pure 4 <| .pure 5 <| .pure 6 <| .pure 7 <| .quiet 8 <| .pure 9 <| .pure 10 <| .quiet 11 <| .pure 12 <| .loud 13 <| .loud 14 <| .pure 15 <| .bar 16 <| .fin) (by decide +kernel) ?_
  refine W_p rfl (q_mov rfl rfl) rfl rfl ?_
  refine W_p rfl (q_nil rfl rfl) rfl rfl ?_
  refine W_p rfl (q_fa rfl fd96_1 rfl) rfl rfl ?_
  refine W_ld rfl rfl ty94 rfl (by repeat (first | with_reducible exact Sel.head | apply Sel.tail)) rfl rfl rfl ?_
  refine W_p rfl (q_mov rfl rfl) rfl rfl ?_
  refine W_p rfl (q_mov rfl rfl) rfl rfl ?_
  refine W_p rfl (q_nil rfl rfl) rfl rfl ?_
  refine W_p rfl (q_fa rfl fd96_1 rfl) rfl rfl ?_
  refine W_ld rfl rfl ty94 rfl (by repeat (first | with_reducible exact Sel.head | apply Sel.tail)) rfl rfl rfl ?_
  refine W_p rfl (q_mov rfl rfl) rfl rfl ?_
  refine W_p rfl (q_ia1 rfl Tryz.underlying94 ty86 rfl rfl hd) rfl rfl ?_
  refine W_ld rfl rfl ty86 rfl (by repeat (first | with_reducible exact Sel.head | apply Sel.tail)) (nth_row hLr) rfl rfl ?_
  refine W_p rfl (q_mov rfl rfl) rfl rfl ?_
  refine W_l rfl (l_bs [.slice none 0 0] rfl Tryz.underlying86 ty22 tz22 (by decide) rfl rfl rfl (by repeat (first | exact FillL.nil | apply FillL.cons rfl rfl (by repeat (first | exact PutL.z | apply PutL.s | apply PutL.t))))) (fun _ _ h => by repeat (first | exact trivial | refine ⟨?_, h.weak (by repeat (first | exact List.Sublist.refl _ | exact List.nil_sublist _ | with_reducible apply List.Sublist.cons_cons | apply List.Sublist.cons)) (by simp +contextual)⟩)) rfl rfl ?_; rintro g33 -
  refine W_l rfl (l_appBs rfl Tryz.underlying86 ty22 tz22 tb22 rfl (by decide) rfl rfl (by repeat (first | with_reducible exact Sel.head | apply Sel.tail)) (fun _ => (by repeat (first | with_reducible exact Put.head | apply Put.tail))) rfl rfl (by simp [maxLen]; omega) (by first | omega | (simp; omega))) (fun _ _ h => by repeat (first | exact trivial | refine ⟨?_, h.weak (by repeat (first | exact List.Sublist.refl _ | exact List.nil_sublist _ | with_reducible apply List.Sublist.cons_cons | apply List.Sublist.cons)) (by simp +contextual)⟩)) rfl rfl ?_; rintro ⟨a3', c3'⟩ -
  refine W_p rfl (q_ia1 rfl Tryz.underlying94 ty86 rfl rfl hd) rfl rfl ?_
  refine W_bn rfl (l_st rfl ty86 rfl rfl rfl rfl rfl (by repeat (first | with_reducible exact Put.head | apply Put.tail)) (putL_set _ d _ (by simp; omega))) rfl rfl ?_; rintro ⟨⟩ -
  refine W_next (fun _ => rfl) ?_
  refine T_ghost (fun w h => h.rowBack (L := Lr) (i := d) (e := 22) (k := 1) (by omega) (by repeat (first | with_reducible exact Pick.nil | apply Pick.cons (by repeat (first | with_reducible exact Sel.head | apply Sel.tail))))) ?_
  rw [set_row Lr d (.slice a3' (Q.length + 1) c3') (Q.length + 1) (ds ++ [.slice b m c])]
  refine T_ghost (fun w h => h.rowOut (L := Ll) (by repeat (first | with_reducible exact Sel.head | apply Sel.tail)) hL) ?_
  refine T_slice (e := 112) (k := 13) (v := v) (n := P.length) (cs := cs) (by repeat (first | with_reducible exact Sel.head | apply Sel.tail)) fun a2' c2' hv => ?_
  subst hv
  refine T_drawn hmix (.pure 0 <| .pure 1 <| .pure 2 <| .quiet 3 <| .pure 4 <| .pure 5 <| .pure 6 <| .pure 7 <| .quiet 8 <| .pure 9 <| .pure 10 <| .quiet 11 <| .quiet 12 <| .loud 13 <| .loud 14 <| .pure 15 <| .bar 16 <| .fin) (by decide +kernel) ?_
  refine W_p rfl (q_mov rfl rfl) rfl rfl ?_
  refine W_p rfl (q_nil rfl rfl) rfl rfl ?_
  refine W_p rfl (q_fa rfl fd96_0 rfl) rfl rfl ?_
  refine W_ld rfl rfl ty42 rfl (by repeat (first | with_reducible exact Sel.head | apply Sel.tail)) rfl rfl rfl ?_
  refine W_p rfl (q_mov rfl rfl) rfl rfl ?_
  refine W_p rfl (q_mov rfl rfl) rfl rfl ?_
  refine W_p rfl (q_nil rfl rfl) rfl rfl ?_
  refine W_p rfl (q_fa rfl fd96_0 rfl) rfl rfl ?_
  refine W_ld rfl rfl ty42 rfl (by repeat (first | with_reducible exact Sel.head | apply Sel.tail)) rfl rfl rfl ?_
  refine W_p rfl (q_mov rfl rfl) rfl rfl ?_
  refine W_p rfl (q_ia1 rfl Tryz.underlying42 ty63 rfl rfl hd) rfl rfl ?_
  refine W_ld rfl rfl ty63 rfl (by repeat (first | with_reducible exact Sel.head | apply Sel.tail)) (nth_row hL) rfl rfl ?_
  refine W_ldA rfl rfl ty112 rfl (by repeat (first | with_reducible exact Sel.head | apply Sel.tail)) (by repeat (first | exact SubL.z | apply SubL.s | apply SubL.t)) rfl rfl ?_
  refine W_l rfl (l_bs [.int .i64 0, .int .i64 0, .slice none 0 0, .int .i64 0, .slice none 0 0, .slice none 0 0, .slice none 0 0, .int .i64 0, .int .i64 0, .string ByteArray.empty, .int .i64 0, .int .i64 0, .int .i64 0] rfl Tryz.underlying63 ty112 tz112 (by decide) rfl rfl rfl (by repeat (first | exact FillL.nil | apply FillL.cons rfl rfl (by repeat (first | exact PutL.z | apply PutL.s | apply PutL.t))))) (fun _ _ h => by repeat (first | exact trivial | refine ⟨?_, h.weak (by repeat (first | exact List.Sublist.refl _ | exact List.nil_sublist _ | with_reducible apply List.Sublist.cons_cons | apply List.Sublist.cons)) (by simp +contextual)⟩)) rfl rfl ?_; rintro g49 -
  refine W_l rfl (l_appBs rfl Tryz.underlying63 ty112 tz112 tb112 rfl (by decide) rfl rfl (by repeat (first | with_reducible exact Sel.head | apply Sel.tail)) (fun _ => (by repeat (first | with_reducible exact Put.head | apply Put.tail))) rfl rfl (by simp [maxLen]; omega) (by first | omega | (simp; omega))) (fun _ _ h => by repeat (first | exact trivial | refine ⟨?_, h.weak (by repeat (first | exact List.Sublist.refl _ | exact List.nil_sublist _ | with_reducible apply List.Sublist.cons_cons | apply List.Sublist.cons)) (by simp +contextual)⟩)) rfl rfl ?_; rintro ⟨a4', c4'⟩ -
  refine W_p rfl (q_ia1 rfl Tryz.underlying42 ty63 rfl rfl hd) rfl rfl ?_
  refine W_bn rfl (l_st rfl ty63 rfl rfl rfl rfl rfl (by repeat (first | with_reducible exact Put.head | apply Put.tail)) (putL_set _ d _ (by simp; omega))) rfl rfl ?_; rintro ⟨⟩ -
  refine W_fin ?_
  intro w h
  have h1 := h.rowBack (L := Ll) (i := d) (e := 112) (k := 13) (by omega) (by repeat (first | with_reducible exact Pick.nil | apply Pick.cons (by repeat (first | with_reducible exact Sel.head | apply Sel.tail))))
  rw [set_row Ll d (.slice a4' (P.length + 1) c4') (P.length + 1) (cs ++ instC i Q.length a0 n0 c0 a1 n1 c1 a2 n2 c2 a3 n3 c3)] at h1
  have q1 : EvsP rInst _ w PL Ll := h1.atom (A := aEvs rInst PL Ll) (by repeat (first | with_reducible exact In.head | apply In.tail))
  have q2 : EvsP (rSl I) _ w RL Lr := h1.atom (A := aEvs (rSl I) RL Lr) (by repeat (first | with_reducible exact In.head | apply In.tail))
  have k1 : EvP rInst _ w (P ++ [{ i with out := Q.length }]) _ := (q1.2 d P _ hPd hL).1.snoc (c1 := instC i Q.length a0 n0 c0 a1 n1 c1 a2 n2 c2 a3 n3 c3) ⟨a0, n0, c0, _, rfl, h1.atom (A := aSl I i.inn a0 n0 c0) (by repeat (first | with_reducible exact In.head | apply In.tail)), a1, n1, c1, a2, n2, c2, a3, n3, c3, rfl, h1.atom (A := aSl I i.node.inn a1 n1 c1) (by repeat (first | with_reducible exact In.head | apply In.tail)), h1.atom (A := aSl I i.node.sh a2 n2 c2) (by repeat (first | with_reducible exact In.head | apply In.tail)), h1.atom (A := aSl I i.node.a a3 n3 c3) (by repeat (first | with_reducible exact In.head | apply In.tail))⟩
  have k2 : EvP (rSl I) _ w (Q ++ [s]) _ := (q2.2 d Q _ hQ hLr).1.snoc (c1 := [.slice b m c]) ⟨b, m, c, rfl, h1.atom (A := aSl I s b m c) (by repeat (first | with_reducible exact In.head | apply In.tail))⟩
  have h2 := (h1.know (aEvs _ _ _) (q1.set d (v := .slice a4' (P.length + 1) c4') (n := P.length + 1) (by simp) k1)).know (aEvs _ _ _) (q2.set d (v := .slice a3' (Q.length + 1) c3') (n := Q.length + 1) (by simp) k2)
  rw [eP, eQ]
  exact ⟨_, res_0, (_, _), trivial, rfl, h2.pick (by repeat (first | with_reducible exact Pick.nil | apply Pick.cons (by repeat (first | with_reducible exact Sel.head | apply Sel.tail)))) (by simp)⟩
theorem c_mputS (PL : List (List Inst)) (RL : List (List (List Int))) (Ll Lr : List RowT) (g gl gr n d : Nat) (vw tg : Value) (i : Inst) (s : List Int) (a0 a1 a2 a3 b : Option Addr) (n0 c0 n1 c1 n2 c2 n3 c3 m c : Nat)
    (hd : d < n) (hP : PL.length = n) (hR : RL.length = n) (hk : i.kind = 3) (hPb : (PL.getD d []).length ≤ 100000) :
    Con Tryz.prog 82 #[.pointer (some ⟨g, 0, none⟩), .int .i64 d, .agg (instC i i.out a0 n0 c0 a1 n1 c1 a2 n2 c2 a3 n3 c3).toArray, .slice b m c]
    [rBlk g 96 [.slice (some ⟨gl, 0, none⟩) n n, .slice (some ⟨gr, 0, none⟩) n n, vw, tg], rBlk gl 63 (Ll.map (·.1)), rAll (Ll.map (rRow 112 13)), rBlk gr 86 (Lr.map (·.1)), rAll (Lr.map (rRow 22 1))]
    [aEvs rInst PL Ll, aEvs (rSl I) RL Lr, aSl I i.inn a0 n0 c0, aSl I i.node.inn a1 n1 c1, aSl I i.node.sh a2 n2 c2, aSl I i.node.a a3 n3 c3, aSl I s b m c]
    (fun _ : List RowT => True) (fun _ => .tuple #[])
    (fun y => [rBlk g 96 [.slice (some ⟨gl, 0, none⟩) n n, .slice (some ⟨gr, 0, none⟩) n n, vw, tg], rBlk gl 63 (y.map (·.1)), rAll (y.map (rRow 112 13)), rBlk gr 86 (Lr.map (·.1)), rAll (Lr.map (rRow 22 1))])
    (fun y => [aEvs rInst (PL.set d (PL.getD d [] ++ [i])) y]) := by
  refine con_of (n := 52) Tryz.func82 rfl rfl rfl (by simp) ?_
  intro C hC
  refine T_pure (φ := (∃ P v cs, PL[d]? = some P ∧ Ll[d]? = some (v, P.length, cs)) ∧ Ll.length = n)
    (fun w h => ⟨evs_row h (xss := PL) (L := Ll) (by repeat (first | with_reducible exact In.head | apply In.tail)) (by omega), by rw [evs_len h (xss := PL) (by repeat (first | with_reducible exact In.head | apply In.tail)), hP]⟩) (fun hx => ?_)
  obtain ⟨⟨P, v, cs, hPd, hL⟩, hLl⟩ := hx
  have eP : PL.getD d [] = P := by rw [List.getD_eq_getElem?_getD, hPd]; rfl
  rw [eP] at hPb
  refine T_seq (T_reg rfl ?_)
  refine V_l (l_boxA rfl rfl) rfl rfl ?_; rintro g6 -
  refine V_next (fun _ => rfl) ?_
  refine T_seq ?_
  refine T_seq (T_reg rfl ?_)
  refine V_q (q_fa rfl fd112_0 rfl) rfl rfl ?_
  refine V_q (q_ld rfl ty3 rfl (by repeat (first | with_reducible exact Sel.head | apply Sel.tail)) rfl) rfl rfl ?_
  refine V_q (q_ne rfl rfl rfl) rfl rfl ?_
  refine V_next (fun _ => rfl) ?_
  refine T_cond rfl (fun hb => ?_) (fun hb => ?_)
  · exact absurd hk (by simpa using hb)
  refine T_skip_next (fun _ => rfl) ?_
  refine T_ghost (fun w h => h.rowOut (L := Ll) (by repeat (first | with_reducible exact Sel.head | apply Sel.tail)) hL) ?_
  refine T_slice (e := 112) (k := 13) (v := v) (n := P.length) (cs := cs) (by repeat (first | with_reducible exact Sel.head | apply Sel.tail)) fun a2' c2' hv => ?_
  subst hv
  refine T_drawn hmix (.pure 0 <| .pure 1 <| .pure 2 <| .quiet 3 <| .pure 4 <| .pure 5 <| .pure 6 <| .pure 7 <| .quiet 8 <| .pure 9 <| .pure 10 <| .quiet 11 <| .quiet 12 <| .loud 13 <| .loud 14 <| .pure 15 <| .bar 16 <| .fin) (by decide +kernel) ?_
  refine W_p rfl (q_mov rfl rfl) rfl rfl ?_
  refine W_p rfl (q_nil rfl rfl) rfl rfl ?_
  refine W_p rfl (q_fa rfl fd96_0 rfl) rfl rfl ?_
  refine W_ld rfl rfl ty42 rfl (by repeat (first | with_reducible exact Sel.head | apply Sel.tail)) rfl rfl rfl ?_
  refine W_p rfl (q_mov rfl rfl) rfl rfl ?_
  refine W_p rfl (q_mov rfl rfl) rfl rfl ?_
  refine W_p rfl (q_nil rfl rfl) rfl rfl ?_
  refine W_p rfl (q_fa rfl fd96_0 rfl) rfl rfl ?_
  refine W_ld rfl rfl ty42 rfl (by repeat (first | with_reducible exact Sel.head | apply Sel.tail)) rfl rfl rfl ?_
  refine W_p rfl (q_mov rfl rfl) rfl rfl ?_
  refine W_p rfl (q_ia1 rfl Tryz.underlying42 ty63 rfl rfl hd) rfl rfl ?_
  refine W_ld rfl rfl ty63 rfl (by repeat (first | with_reducible exact Sel.head | apply Sel.tail)) (nth_row hL) rfl rfl ?_
  refine W_ldA rfl rfl ty112 rfl (by repeat (first | with_reducible exact Sel.head | apply Sel.tail)) (by repeat (first | exact SubL.z | apply SubL.s | apply SubL.t)) rfl rfl ?_
  refine W_l rfl (l_bs [.int .i64 0, .int .i64 0, .slice none 0 0, .int .i64 0, .slice none 0 0, .slice none 0 0, .slice none 0 0, .int .i64 0, .int .i64 0, .string ByteArray.empty, .int .i64 0, .int .i64 0, .int .i64 0] rfl Tryz.underlying63 ty112 tz112 (by decide) rfl rfl rfl (by repeat (first | exact FillL.nil | apply FillL.cons rfl rfl (by repeat (first | exact PutL.z | apply PutL.s | apply PutL.t))))) (fun _ _ h => by repeat (first | exact trivial | refine ⟨?_, h.weak (by repeat (first | exact List.Sublist.refl _ | exact List.nil_sublist _ | with_reducible apply List.Sublist.cons_cons | apply List.Sublist.cons)) (by simp +contextual)⟩)) rfl rfl ?_; rintro g49 -
  refine W_l rfl (l_appBs rfl Tryz.underlying63 ty112 tz112 tb112 rfl (by decide) rfl rfl (by repeat (first | with_reducible exact Sel.head | apply Sel.tail)) (fun _ => (by repeat (first | with_reducible exact Put.head | apply Put.tail))) rfl rfl (by simp [maxLen]; omega) (by first | omega | (simp; omega))) (fun _ _ h => by repeat (first | exact trivial | refine ⟨?_, h.weak (by repeat (first | exact List.Sublist.refl _ | exact List.nil_sublist _ | with_reducible apply List.Sublist.cons_cons | apply List.Sublist.cons)) (by simp +contextual)⟩)) rfl rfl ?_; rintro ⟨a4', c4'⟩ -
  refine W_p rfl (q_ia1 rfl Tryz.underlying42 ty63 rfl rfl hd) rfl rfl ?_
  refine W_bn rfl (l_st rfl ty63 rfl rfl rfl rfl rfl (by repeat (first | with_reducible exact Put.head | apply Put.tail)) (putL_set _ d _ (by simp; omega))) rfl rfl ?_; rintro ⟨⟩ -
  refine W_fin ?_
  intro w h
  have h1 := h.rowBack (L := Ll) (i := d) (e := 112) (k := 13) (by omega) (by repeat (first | with_reducible exact Pick.nil | apply Pick.cons (by repeat (first | with_reducible exact Sel.head | apply Sel.tail))))
  rw [set_row Ll d (.slice a4' (P.length + 1) c4') (P.length + 1) (cs ++ instC i i.out a0 n0 c0 a1 n1 c1 a2 n2 c2 a3 n3 c3)] at h1
  have q1 : EvsP rInst _ w PL Ll := h1.atom (A := aEvs rInst PL Ll) (by repeat (first | with_reducible exact In.head | apply In.tail))
  have k1 : EvP rInst _ w (P ++ [i]) _ := (q1.2 d P _ hPd hL).1.snoc (c1 := instC i i.out a0 n0 c0 a1 n1 c1 a2 n2 c2 a3 n3 c3) ⟨a0, n0, c0, _, rfl, h1.atom (A := aSl I i.inn a0 n0 c0) (by repeat (first | with_reducible exact In.head | apply In.tail)), a1, n1, c1, a2, n2, c2, a3, n3, c3, rfl, h1.atom (A := aSl I i.node.inn a1 n1 c1) (by repeat (first | with_reducible exact In.head | apply In.tail)), h1.atom (A := aSl I i.node.sh a2 n2 c2) (by repeat (first | with_reducible exact In.head | apply In.tail)), h1.atom (A := aSl I i.node.a a3 n3 c3) (by repeat (first | with_reducible exact In.head | apply In.tail))⟩
  have h2 := h1.know (aEvs _ _ _) (q1.set d (v := .slice a4' (P.length + 1) c4') (n := P.length + 1) (by simp) k1)
  rw [eP]
  exact ⟨_, res_0, _, trivial, rfl, h2.pick (by repeat (first | with_reducible exact Pick.nil | apply Pick.cons (by repeat (first | with_reducible exact Sel.head | apply Sel.tail)))) (by simp)⟩

abbrev nd0 : Nd := ⟨0, [], [], [], 0, 0, ByteArray.empty⟩

theorem c_mrecv {n : Nat} (s : MkS) (hK : KInv evP n s) (hl : s.es.length ≤ 1000) {k : Nat} {x : EvT} (hx : s.W[k]? = some x) (Ll Lr : List RowT) (g gl gr : Nat) (vw : Value) (cw : List Value) (tg : Value) :
    Con Tryz.prog 56 #[.pointer (some ⟨g, 0, none⟩), .int .i64 k]
    [rBlk g 96 [.slice (some ⟨gl, 0, none⟩) n n, .slice (some ⟨gr, 0, none⟩) n n, vw, tg], rBlk gl 63 (Ll.map (·.1)), rAll (Ll.map (rRow 112 13)), rBlk gr 86 (Lr.map (·.1)), rAll (Lr.map (rRow 22 1)), rOwn 131 5 vw s.W.length cw]
    [aEvs rInst (PLs n s.es) Ll, aEvs (rSl I) (RLs n s.es) Lr, aEv rMsg (s.W.map toMsgW) cw]
    (fun _ : (List RowT × List RowT) × Value × List Value => True) (fun _ => .tuple #[])
    (fun y => [rBlk g 96 [.slice (some ⟨gl, 0, none⟩) n n, .slice (some ⟨gr, 0, none⟩) n n, y.2.1, tg], rBlk gl 63 (y.1.1.map (·.1)), rAll (y.1.1.map (rRow 112 13)), rBlk gr 86 (y.1.2.map (·.1)), rAll (y.1.2.map (rRow 22 1)), rOwn 131 5 y.2.1 (s.W.take k ++ s.W.drop (k + 1)).length y.2.2])
    (fun y => [aEvs rInst (PLs n (s.es ++ [⟨x.i.dev.toNat, recvI (valE s.es x.i.dev.toNat).length x, x.v⟩])) y.1.1, aEvs (rSl I) (RLs n (s.es ++ [⟨x.i.dev.toNat, recvI (valE s.es x.i.dev.toNat).length x, x.v⟩])) y.1.2, aEv rMsg ((s.W.take k ++ s.W.drop (k + 1)).map toMsgW) y.2.2]) := by
  refine con_of (n := 43) Tryz.func56 rfl rfl rfl (by simp) ?_
  intro C hC
  have hk := (List.getElem?_eq_some_iff.1 hx).1
  have hWl : s.W.length ≤ 1000 := by
    have := hK.w3
    have h2 : cnt 3 s.es ≤ s.es.length := List.length_filter_le _ _
    omega
  obtain ⟨dd, hdd, hdn⟩ : ∃ dd : Nat, x.i.dev = dd ∧ dd < n := by
    have := hK.w1 x (List.mem_of_getElem? hx)
    obtain ⟨a, b, q⟩ := List.append_of_mem this.1
    have hok := hK.good.split a x b q
    cases hok with
    | take _ hk' => omega
    | work _ hk' => omega
    | recv _ hk' => omega
    | send hd hk' a hi hv h0 h1 ht => exact ⟨x.i.dev.toNat, by omega, by omega⟩
  refine T_lend rMsg (k := 5) rfl (by decide) (xs := s.W.map toMsgW) (v := vw) (n := s.W.length) (cs := cw) (by repeat (first | with_reducible exact Sel.head | apply Sel.tail)) (by repeat (first | with_reducible exact In.head | apply In.tail)) fun C1 wa wc hv hret hdrop => ?_
  subst hv
  clear hret
  refine T_msg k (xs := s.W.map toMsgW) (a := wa) (by repeat (first | with_reducible exact In.head | apply In.tail)) hk fun y ad pa pn pc qa qn qc hy had => ?_
  have hy' : y = toMsgW x := by
    rw [List.getElem?_map, hx] at hy
    injection hy with hy; exact hy.symm
  have e1 : y.to = dd := by rw [hy']; exact hdd
  have e2 : y.fr = x.d := by rw [hy']; rfl
  have e3 : y.tag = x.i.tag := by rw [hy']; rfl
  have e4 : y.t.sh = x.v.sh := by rw [hy']; rfl
  rw [e4, e1, e2, e3]
  refine T_seq (T_reg rfl ?_)
  refine V_q (q_mov rfl rfl) rfl rfl ?_
  refine V_q (q_nil rfl rfl) rfl rfl ?_
  refine V_q (q_fa rfl fd96_2 rfl) rfl rfl ?_
  refine V_q (q_ld rfl ty65 rfl (by repeat (first | with_reducible exact Sel.head | apply Sel.tail)) rfl) rfl rfl ?_
  refine V_q (q_mov rfl rfl) rfl rfl ?_
  refine V_q (q_iaE rfl Tryz.underlying65 ty131 rfl rfl hk had) rfl rfl ?_
  refine V_q (q_ldRA rfl ty131 rfl rfl (by repeat (first | with_reducible exact In.head | apply In.tail))) rfl rfl ?_
  refine V_l (l_alloc (cs := [.int .i64 0, .int .i64 0, .int .i64 0, .slice none 0 0, .slice none 0 0]) rfl tz131 rfl) rfl rfl ?_; rintro g4 -
  refine V_n (l_st rfl ty131 rfl rfl rfl rfl rfl (by repeat (first | with_reducible exact Put.head | apply Put.tail)) (by repeat (first | exact PutL.z | apply PutL.s | apply PutL.t))) rfl rfl ?_; rintro ⟨⟩ -
  refine V_next (fun _ => rfl) ?_
  refine T_ghost (fun w h => h.take (xs := s.W.map toMsgW) (a := wa) (j := k) (by repeat (first | with_reducible exact In.head | apply In.tail)) (by omega)) ?_
  refine T_ghost (fun w h => (show St C1 _ (aSl rMsg ((s.W.map toMsgW).drop (k + 1)) (sa wa wc (k + 1) 5) (s.W.length - (k + 1)) (wc - (k + 1)) :: _) w from h.drop (xs := s.W.map toMsgW) (a := wa) (j := k + 1) (by repeat (first | with_reducible exact In.head | apply In.tail)) (by omega))) ?_
  refine T_pure (φ := s.W.length ≤ wc) (fun w h => (sl_len h (xs := s.W.map toMsgW) (a := wa) (by repeat (first | with_reducible exact In.head | apply In.tail))).2.1) (fun hwc => ?_)
  refine T_seq (T_drawn hmix (.pure 0 <| .pure 2 <| .pure 3 <| .pure 4 <| .quiet 5 <| .pure 6 <| .pure 7 <| .pure 9 <| .pure 10 <| .pure 11 <| .quiet 12 <| .pure 13 <| .pure 14 <| .pure 15 <| .loud 1 <| .loud 8 <| .loud 16 <| .pure 17 <| .pure 18 <| .bar 19 <| .fin) (by decide +kernel) ?_)
  refine W_p rfl (q_mov rfl rfl) rfl rfl ?_
  refine W_p rfl (q_mov rfl rfl) rfl rfl ?_
  refine W_p rfl (q_nil rfl rfl) rfl rfl ?_
  refine W_p rfl (q_fa rfl fd96_2 rfl) rfl rfl ?_
  refine W_ld rfl rfl ty65 rfl (by repeat (first | with_reducible exact Sel.head | apply Sel.tail)) rfl rfl rfl ?_
  refine W_p rfl (q_mov rfl rfl) rfl rfl ?_
  refine W_p rfl (q_slH rfl Tryz.underlying65 ty131 rfl rfl (by omega)) rfl rfl ?_
  refine W_p rfl (q_mov rfl rfl) rfl rfl ?_
  refine W_p rfl (q_nil rfl rfl) rfl rfl ?_
  refine W_p rfl (q_fa rfl fd96_2 rfl) rfl rfl ?_
  refine W_ld rfl rfl ty65 rfl (by repeat (first | with_reducible exact Sel.head | apply Sel.tail)) rfl rfl rfl ?_
  refine W_p rfl (q_mov rfl rfl) rfl rfl ?_
  refine W_p rfl (q_addE ((k + 1 : Nat) : Int) rfl rfl rfl (by omega) (by omega)) rfl rfl ?_
  refine W_p rfl (q_slL rfl Tryz.underlying65 ty131 rfl rfl (by omega)) rfl rfl ?_
  refine W_l rfl (l_bsO [] rfl Tryz.underlying65 ty131 tz131 (by decide) rfl rfl rfl (by repeat (first | exact FillL.nil | apply FillL.cons rfl rfl (by repeat (first | exact PutL.z | apply PutL.s | apply PutL.t)))) rfl (by decide)) (fun _ _ h => by repeat (first | exact trivial | refine ⟨?_, h.weak (by repeat (first | exact List.Sublist.refl _ | exact List.nil_sublist _ | with_reducible apply List.Sublist.cons_cons | apply List.Sublist.cons)) (by simp +contextual)⟩)) rfl rfl ?_; rintro g13 -
  refine W_l rfl (l_appSs rMsg rfl Tryz.underlying65 ty131 tz131 tb131 rfl rfl (by decide) rfl rfl (xs := (s.W.map toMsgW).take k) (by repeat (first | with_reducible exact In.head | apply In.tail)) (fun _ _ => (by repeat (first | with_reducible exact Put.head | apply Put.tail))) (by unfold maxLen; omega) (by omega)) (fun _ _ h => by repeat (first | exact trivial | refine ⟨?_, h.weak (by repeat (first | exact List.Sublist.refl _ | exact List.nil_sublist _ | with_reducible apply List.Sublist.cons_cons | apply List.Sublist.cons)) (by simp +contextual)⟩)) rfl rfl ?_; rintro ⟨news, ra, rc⟩ -
  refine W_l rfl (l_appSs rMsg rfl Tryz.underlying65 ty131 tz131 tb131 rfl rfl (by decide) rfl rfl (xs := (s.W.map toMsgW).drop (k + 1)) (by repeat (first | with_reducible exact In.head | apply In.tail)) (fun _ _ => (by repeat (first | with_reducible exact Put.head | apply Put.tail))) (by unfold maxLen; omega) (by omega)) (fun _ _ h => by repeat (first | exact trivial | refine ⟨?_, h.weak (by repeat (first | exact List.Sublist.refl _ | exact List.nil_sublist _ | with_reducible apply List.Sublist.cons_cons | apply List.Sublist.cons)) (by simp +contextual)⟩)) rfl rfl ?_; rintro ⟨news', ra', rc'⟩ -
  refine W_p rfl (q_nil rfl rfl) rfl rfl ?_
  refine W_p rfl (q_fa rfl fd96_2 rfl) rfl rfl ?_
  refine W_bn rfl (l_st rfl ty65 rfl rfl rfl rfl rfl (by repeat (first | with_reducible exact Put.head | apply Put.tail)) (by repeat (first | exact PutL.z | apply PutL.s | apply PutL.t))) rfl rfl ?_; rintro ⟨⟩ -
  refine W_next (fun _ => rfl) ?_
  refine T_back (fun w h => hdrop _ _ _ h) ?_
  refine T_ghost (fun w h => h.nil I) ?_
  clear hdrop
  have eq1 : ((RLs n s.es).getD dd []).length = (valE s.es dd).length := by rw [RLs_get _ hdn, List.length_map]
  have eq2 : x.i.dev.toNat = dd := by omega
  refine T_reg rfl ?_
  refine V_q (q_mov rfl rfl) rfl rfl ?_
  refine V_q (q_fa rfl fd131_1 rfl) rfl rfl ?_
  refine V_q (q_ld rfl ty3 rfl (by repeat (first | with_reducible exact Sel.head | apply Sel.tail)) rfl) rfl rfl ?_
  refine V_q (q_fa rfl fd131_0 rfl) rfl rfl ?_
  refine V_q (q_ld rfl ty3 rfl (by repeat (first | with_reducible exact Sel.head | apply Sel.tail)) rfl) rfl rfl ?_
  refine V_q (q_fa rfl fd131_2 rfl) rfl rfl ?_
  refine V_q (q_ld rfl ty3 rfl (by repeat (first | with_reducible exact Sel.head | apply Sel.tail)) rfl) rfl rfl ?_
  refine V_q (q_buildS rfl pl112 tz112 rfl rfl (by repeat (first | exact FillL.nil | apply FillL.cons rfl rfl (by repeat (first | exact PutL.z | apply PutL.s | apply PutL.t))))) rfl rfl ?_
  refine V_q (q_fa rfl fd131_3 rfl) rfl rfl ?_
  refine V_q (q_fa rfl fd28_0 rfl) rfl rfl ?_
  refine V_q (q_ld rfl ty22 rfl (by repeat (first | with_reducible exact Sel.head | apply Sel.tail)) rfl) rfl rfl ?_
  refine V_l (l_call rfl ent82 rfl (c_mputR (PLs n s.es) (RLs n s.es) Ll Lr g gl gr n dd (.slice ra' (0 + k + (s.W.length - (k + 1))) rc') tg ⟨4, 0, [], nd0, 0, x.d, x.i.tag⟩ x.v.sh none none none none pa 0 0 0 0 0 0 0 0 pn pc hdn (PLs_len n _) (RLs_len n _) (by show ¬ ((4 : Int) = 3); decide) (by rw [PLs_get _ hdn]; have := progE_len s.es dd; omega) (by rw [eq1]; have := valE_len s.es dd; omega)) (by repeat (first | with_reducible exact Pick.nil | apply Pick.cons (by repeat (first | with_reducible exact Sel.head | apply Sel.tail)))) (by repeat (first | with_reducible exact Ins.nil | refine Ins.cons (by repeat (first | with_reducible exact In.head | apply In.tail)) ?_)) (fun _ => (by repeat (first | with_reducible exact App.nil | apply App.cons))) (fun _ => (by repeat (first | with_reducible exact App.nil | apply App.cons)))) rfl rfl ?_; rintro ⟨Ll', Lr'⟩ -
  refine V_nil ?_
  intro w h
  rw [eq1] at h
  have f1 := PLs_snoc (n := n) s.es (e := ⟨dd, recvI (valE s.es dd).length x, x.v⟩) hdn
  have f2 := RLs_snoc (n := n) s.es (e := ⟨dd, recvI (valE s.es dd).length x, x.v⟩) hdn (by show ¬ ((4 : Int) = 3); decide)
  have g0 := h.know (aEvs (rSl I) (RLs n (s.es ++ [⟨dd, recvI (valE s.es dd).length x, x.v⟩])) Lr') (by rw [f2]; exact h.atom In.head.tail)
  have g1 := g0.know (aEvs rInst (PLs n (s.es ++ [⟨dd, recvI (valE s.es dd).length x, x.v⟩])) Ll') (by rw [f1]; exact g0.atom In.head.tail)
  have hlen : (s.W.take k ++ s.W.drop (k + 1)).length = 0 + k + (s.W.length - (k + 1)) := by simp; omega
  have g2 := g1.know (aEv rMsg ((s.W.take k ++ s.W.drop (k + 1)).map toMsgW) ([] ++ news ++ news')) (show EvP rMsg _ _ _ ([] ++ news ++ news') from by
    rw [List.nil_append, List.map_append, List.map_take, List.map_drop]
    exact (show EvP rMsg _ _ _ _ from g1.atom (A := aEv rMsg ((s.W.map toMsgW).take k) news) (by repeat (first | with_reducible exact In.head | apply In.tail))).app (show EvP rMsg _ _ _ _ from g1.atom (A := aEv rMsg ((s.W.map toMsgW).drop (k + 1)) news') (by repeat (first | with_reducible exact In.head | apply In.tail))))
  rw [eq2, hlen]
  exact ⟨_, res_0, ((Ll', Lr'), _, _), trivial, rfl, g2.pick (by repeat (first | with_reducible exact Pick.nil | apply Pick.cons (by repeat (first | with_reducible exact Sel.head | apply Sel.tail)))) (by simp)⟩
end Go.Proofs.YtgbhegmhbeekpaaGreat
