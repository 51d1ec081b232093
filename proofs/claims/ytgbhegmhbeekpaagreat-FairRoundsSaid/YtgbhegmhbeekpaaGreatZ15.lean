/-
  A step of a machine; many steps.
-/
import Derived.Test.YtgbhegmhbeekpaaGreatZ14
namespace Go.Proofs.YtgbhegmhbeekpaaGreat
open Go
set_option maxRecDepth 100000

theorem put_ref {l : List Dev} {As : List DA} {d : Nat} {x : Dev} {A : DA} {sp : List Value} (h1 : l[d]? = some x) (h2 : As[d]? = some A) : PutL (devs l As ++ sp) (d * 5 + 4) [.int .i64 0] (devs l As ++ sp) := by
  have h := put_dev (x' := x) (A' := A) (sp := sp) 4 (.int .i64 0) h1 h2 (by decide) rfl
  rwa [set_same h1, set_same h2] at h

/-- what makes steps go well -/
structure Run (ev : EvF) (n : Nat) (G : Nat → List Tn) (es : List EvT) : Prop where
  good : Good ev n G es
  n8 : n ≤ 8
  len : es.length ≤ 1000000
  sm : ∀ e ∈ es, SmT e.v
  inn : ∀ e ∈ es, e.i.inn.length ≤ 100000
  node : ∀ nd ins v, ev nd ins = some v → NodeCon nd ins v

theorem doM_eq (m : Mac) (d : Nat) (i : Inst) (v : Tn) (hd : d < m.l.length) : doM m d i v = ⟨(doR m d i v).l.set d { (doR m d i v).dev d with pc := ((doR m d i v).dev d).pc + 1 }, (doR m d i v).bag, (doR m d i v).sent⟩ := by
  unfold doM doR
  by_cases hk : i.kind = 3
  · rw [if_pos hk, if_pos hk]
    rfl
  · rw [if_neg hk, if_neg hk]
    have h1 : (Mac.mk (m.l.set d { m.dev d with regs := putE (m.dev d).regs i.out v }) (if i.kind = 4 then delE m.bag (i.dev, (d : Int), i.tag) else m.bag) m.sent).dev d = { m.dev d with regs := putE (m.dev d).regs i.out v } := by
      rw [dev_set hd, if_pos rfl]
    simp only [h1, List.set_set]
theorem doR_len (m : Mac) (d : Nat) (i : Inst) (v : Tn) : (doR m d i v).l.length = m.l.length := by unfold doR; split <;> simp

section
variable {ev : EvF} {n : Nat} {G : Nat → List Tn} {es : List EvT}
theorem MInv.sentB {m : Mac} (h : MInv es n G m) (hr : Run ev n G es) : m.sent ≤ 1000000 := by
  have h1 := h.sent_le
  have h2 := tot_evd n es (fun e he => hr.good.lt he)
  have h3 : tot (fun d => cnt 3 (evd es d)) n ≤ tot (fun d => (evd es d).length) n := tot_le n fun d _ => List.length_filter_le _ _
  have := hr.len
  omega
end

theorem c_Step {ev : EvF} {n : Nat} {G : Nat → List Tn} {es : List EvT} (hr : Run ev n G es) (m : Mac) (h : MInv es n G m) (y : MacA) (d : Int) : Con Tryz.prog 34 #[.pointer (some ⟨y.g, 0, none⟩), .int .i64 d] (macO n m y) (macF m y)
    (fun _ : List DA × List (Key3 × Value) => True) (fun _ => .tuple #[.bool (canZ m d), .int .i64 0]) (fun z => macO n (stepZ ev m d) { y with As := z.1, EB := z.2 }) (fun z => macF (stepZ ev m d) { y with As := z.1, EB := z.2 }) := by
  refine con_of (n := 53) Tryz.func34 rfl rfl rfl (by simp) ?_
  intro C hC
  have cw := c_waits m y h.len d
  by_cases hc : canZ m d = true
  rotate_left
  · have hcf : canZ m d = false := by simpa using hc
    rw [hcf] at cw ⊢
    have hst : stepZ ev m d = m := by
      unfold stepZ
      split
      · refine stepM_not ?_
        unfold canZ at hcf
        rename_i h0
        simpa [h0] using hcf
      · rfl
    rw [hst]
    refine T_seq (T_reg rfl ?_)
    refine V_q (q_asg rfl rfl) rfl rfl ?_
    refine V_q (q_asg rfl rfl) rfl rfl ?_
    refine V_next (fun _ => rfl) ?_
    refine T_seq ?_
    refine T_seq (T_reg rfl ?_)
    refine V_q (q_mov rfl rfl) rfl rfl ?_
    refine V_q (q_mov rfl rfl) rfl rfl ?_
    refine V_l (l_call rfl ent63 rfl (cw) (by repeat (first | with_reducible exact Pick.nil | apply Pick.cons (by repeat (first | with_reducible exact Sel.head | apply Sel.tail)))) (by repeat (first | with_reducible exact Ins.nil | refine Ins.cons (by repeat (first | with_reducible exact In.head | apply In.tail)) ?_)) (fun _ => (by repeat (first | with_reducible exact App.nil | apply App.cons))) (fun _ => (by repeat (first | with_reducible exact App.nil | apply App.cons)))) rfl rfl ?_; rintro g9 -
    refine V_next (fun _ => rfl) ?_
    refine T_cond rfl (fun hb => ?_) (fun hb => ?_)
    · refine T_seq (T_reg rfl ?_)
      refine V_q (q_asg rfl rfl) rfl rfl ?_
      refine V_q (q_asg rfl rfl) rfl rfl ?_
      refine V_next (fun _ => rfl) ?_
      exact T_ret fun w h => ⟨_, res_2 rfl rfl, (y.As, y.EB), trivial, rfl, h.pick (by repeat (first | with_reducible exact Pick.nil | apply Pick.cons (by repeat (first | with_reducible exact Sel.head | apply Sel.tail)))) (by simp)⟩
    · cases hb
  rw [hc] at cw ⊢
  obtain ⟨e, he, hce⟩ : ∃ e : Nat, d = e ∧ canM m e = true := by
    unfold canZ at hc
    simp only [Bool.and_eq_true, decide_eq_true_eq] at hc
    exact ⟨d.toNat, by omega, hc.2⟩
  subst he
  obtain ⟨hen, E, hE, hnx⟩ := h.can hce
  have hst : stepZ ev m (e : Int) = doM m e E.i E.v := by
    unfold stepZ
    rw [if_pos (by omega), Int.toNat_natCast]
    exact h.stepM_eq hr.good hce hE
  rw [hst]
  obtain ⟨a, b, q1, q2, q3, q4⟩ := hr.good.at hE
  have hEm : E ∈ es := by rw [q1]; simp
  obtain ⟨hv, hb3⟩ := h.val hr.good hen hE hce
  have hi0 : E.i.kind = 1 → 0 ≤ E.i.n := fun hk => by cases q4 <;> first | assumption | omega
  have hi1 : E.i.kind = 3 → E.i.inn.length = 1 := fun hk => by
    cases q4 with
    | send hd hk' x hi _ _ _ _ => rw [hi]; rfl
    | take _ hk' => omega
    | work _ hk' => omega
    | recv _ hk' => omega
  refine T_dev e (L := m.l) (As := y.As) (by repeat (first | with_reducible exact In.head | apply In.tail)) (by rw [h.len]; exact hen) fun x A hx hA => ?_
  have hpx : x.p[x.pc]? = some E.i := by rw [← next_of hx]; exact hnx
  have hpl : x.pc < x.p.length := (List.getElem?_eq_some_iff.1 hpx).1
  refine T_pure (φ := A.pn = x.p.length) (fun w h => (sl_len h (xs := x.p) (a := A.pa) (n := A.pn) (c := A.pc) (by repeat (first | with_reducible exact In.head | apply In.tail))).1) (fun hpn => ?_)
  refine T_inst x.pc (xs := x.p) (a := A.pa) (by repeat (first | with_reducible exact In.head | apply In.tail)) (by omega) fun i ad a0 n0 c0 a1 n1 c1 a2 n2 c2 a3 n3 c3 hi had => ?_
  rw [hpx] at hi; injection hi with hi; subst hi
  have cd := c_do m y h.len e hen E.i E.v ev hv q4.kind hi0 hi1 hb3 (fun _ ins hins => hr.node _ _ _ hins) (hr.sm E hEm) (hr.inn E hEm) (h.sentB hr) a0 a1 a2 a3 n0 c0 n1 c1 n2 c2 n3 c3
  refine T_seq (T_reg rfl ?_)
  refine V_q (q_asg rfl rfl) rfl rfl ?_
  refine V_q (q_asg rfl rfl) rfl rfl ?_
  refine V_next (fun _ => rfl) ?_
  refine T_seq ?_
  refine T_seq (T_reg rfl ?_)
  refine V_q (q_mov rfl rfl) rfl rfl ?_
  refine V_q (q_mov rfl rfl) rfl rfl ?_
  refine V_l (l_call rfl ent63 rfl (cw) (by repeat (first | with_reducible exact Pick.nil | apply Pick.cons (by repeat (first | with_reducible exact Sel.head | apply Sel.tail)))) (by repeat (first | with_reducible exact Ins.nil | refine Ins.cons (by repeat (first | with_reducible exact In.head | apply In.tail)) ?_)) (fun _ => (by repeat (first | with_reducible exact App.nil | apply App.cons))) (fun _ => (by repeat (first | with_reducible exact App.nil | apply App.cons)))) rfl rfl ?_; rintro g9 -
  refine V_next (fun _ => rfl) ?_
  refine T_cond rfl (fun hb => ?_) (fun hb => ?_)
  · cases hb
  refine T_skip_next (fun _ => rfl) ?_
  refine T_seq (T_reg rfl ?_)
  refine V_q (q_mov rfl rfl) rfl rfl ?_
  refine V_q (q_nil rfl rfl) rfl rfl ?_
  refine V_q (q_fa rfl fd104_0 rfl) rfl rfl ?_
  refine V_q (q_ld rfl ty102 rfl (by repeat (first | with_reducible exact Sel.head | apply Sel.tail)) rfl) rfl rfl ?_
  refine V_q (q_mov rfl rfl) rfl rfl ?_
  refine V_q (q_iaD rfl Tryz.underlying102 ty108 rfl rfl hen) rfl rfl ?_
  refine V_q (q_asg rfl rfl) rfl rfl ?_
  refine V_next (fun _ => rfl) ?_
  refine T_seq ?_
  refine T_seq (T_reg rfl ?_)
  refine V_q (q_mov rfl rfl) rfl rfl ?_
  refine V_q (q_nil rfl rfl) rfl rfl ?_
  refine V_q (q_fa rfl fd108_4 rfl) rfl rfl ?_
  refine V_q (q_ld rfl ty47 rfl (by repeat (first | with_reducible exact Sel.head | apply Sel.tail)) (nd4_ hx hA)) rfl rfl ?_
  refine V_q (q_eq rfl rfl rfl) rfl rfl ?_
  refine V_next (fun _ => rfl) ?_
  refine T_cond rfl (fun hb => ?_) (fun hb => ?_)
  rotate_left
  · simp at hb
  refine T_drawn hmix (.pure 0 <| .pure 1 <| .pure 2 <| .pure 3 <| .pure 4 <| .pure 5 <| .quiet 6 <| .pure 7 <| .pure 8 <| .pure 9 <| .quiet 10 <| .pure 11 <| .quiet 12 <| .loud 13 <| .pure 14 <| .pure 15 <| .bar 16 <| .fin) (by decide +kernel) ?_
  refine W_p rfl (q_mov rfl rfl) rfl rfl ?_
  refine W_p rfl (q_mov rfl rfl) rfl rfl ?_
  refine W_p rfl (q_mov rfl rfl) rfl rfl ?_
  refine W_p rfl (q_mov rfl rfl) rfl rfl ?_
  refine W_p rfl (q_nil rfl rfl) rfl rfl ?_
  refine W_p rfl (q_fa rfl fd108_0 rfl) rfl rfl ?_
  refine W_ld rfl rfl ty63 rfl (by repeat (first | with_reducible exact Sel.head | apply Sel.tail)) (nd0_ hx hA) rfl rfl ?_
  refine W_p rfl (q_mov rfl rfl) rfl rfl ?_
  refine W_p rfl (q_nil rfl rfl) rfl rfl ?_
  refine W_p rfl (q_fa rfl fd108_1 rfl) rfl rfl ?_
  refine W_ld rfl rfl ty3 rfl (by repeat (first | with_reducible exact Sel.head | apply Sel.tail)) (nd1_ hx hA) rfl rfl ?_
  refine W_p rfl (q_iaE rfl Tryz.underlying63 ty112 rfl rfl (by omega) had) rfl rfl ?_
  refine W_a rfl (q_ldRA rfl ty112 rfl rfl (by repeat (first | with_reducible exact In.head | apply In.tail))) rfl rfl ?_
  refine W_l rfl (l_call rfl ent65 rfl (cd) (by repeat (first | with_reducible exact Pick.nil | apply Pick.cons (by repeat (first | with_reducible exact Sel.head | apply Sel.tail)))) (by repeat (first | with_reducible exact Ins.nil | refine Ins.cons (by repeat (first | with_reducible exact In.head | apply In.tail)) ?_)) (fun _ => (by repeat (first | with_reducible exact App.nil | apply App.cons))) (fun _ => (by repeat (first | with_reducible exact App.nil | apply App.cons)))) (fun _ _ h => by repeat (first | exact trivial | refine ⟨?_, h.weak (by repeat (first | exact List.Sublist.refl _ | exact List.nil_sublist _ | with_reducible apply List.Sublist.cons_cons | apply List.Sublist.cons)) (by simp +contextual)⟩)) rfl rfl ?_; rintro ⟨As', EB'⟩ hdv
  refine W_p rfl (q_nil rfl rfl) rfl rfl ?_
  refine W_p rfl (q_fa rfl fd108_4 rfl) rfl rfl ?_
  refine W_bn rfl (l_st rfl ty47 rfl rfl rfl rfl rfl (by repeat (first | with_reducible exact Put.head | apply Put.tail)) (put_ref hx hA)) rfl rfl ?_; rintro ⟨⟩ -
  refine W_next (fun _ => rfl) ?_
  replace hdv : devs (doR m e E.i E.v).l As' = devs m.l y.As := hdv
  rw [← hdv]
  refine T_dev e (L := (doR m e E.i E.v).l) (As := As') (by repeat (first | with_reducible exact In.head | apply In.tail)) (by rw [doR_len, h.len]; exact hen) fun x1 A1 hx1 hA1 => ?_
  refine T_seq ?_
  refine T_seq (T_reg rfl ?_)
  refine V_q (q_mov rfl rfl) rfl rfl ?_
  refine V_q (q_nil rfl rfl) rfl rfl ?_
  refine V_q (q_fa rfl fd108_4 rfl) rfl rfl ?_
  refine V_q (q_ld rfl ty47 rfl (by repeat (first | with_reducible exact Sel.head | apply Sel.tail)) (nd4_ hx1 hA1)) rfl rfl ?_
  refine V_q (q_ne rfl rfl rfl) rfl rfl ?_
  refine V_next (fun _ => rfl) ?_
  refine T_cond rfl (fun hb => ?_) (fun hb => ?_)
  · simp at hb
  refine T_skip_next (fun _ => rfl) ?_
  have hpc1 : x1.pc ≤ 1000000 := by
    have h2 : (doR m e E.i E.v).dev e = x1 := dev_of hx1
    have h3 : ((doR m e E.i E.v).dev e).pc = x.pc := by
      unfold doR
      split
      · exact congrArg Dev.pc (dev_of hx)
      · rw [dev_set (by rw [h.len]; exact hen), if_pos rfl, dev_of hx]
    rw [h2] at h3
    have h4 := h.prog e hen
    rw [dev_of hx] at h4
    have h5 := progE_len es e
    have h6 := hr.len
    rw [h4] at hpl
    omega
  refine T_seq (T_reg rfl ?_)
  refine V_q (q_mov rfl rfl) rfl rfl ?_
  refine V_q (q_nil rfl rfl) rfl rfl ?_
  refine V_q (q_fa rfl fd108_1 rfl) rfl rfl ?_
  refine V_q (q_ld rfl ty3 rfl (by repeat (first | with_reducible exact Sel.head | apply Sel.tail)) (nd1_ hx1 hA1)) rfl rfl ?_
  refine V_q (q_addE ((x1.pc + 1 : Nat) : Int) rfl rfl rfl (by omega) (by omega)) rfl rfl ?_
  refine V_q (q_nil rfl rfl) rfl rfl ?_
  refine V_q (q_fa rfl fd108_1 rfl) rfl rfl ?_
  refine V_n (l_st rfl ty3 rfl rfl rfl rfl rfl (by repeat (first | with_reducible exact Put.head | apply Put.tail)) (put_dev (x' := { x1 with pc := x1.pc + 1 }) (A' := A1) 1 _ hx1 hA1 (by decide) rfl)) rfl rfl ?_; rintro ⟨⟩ -
  refine V_next (fun _ => rfl) ?_
  refine T_seq (T_reg rfl ?_)
  refine V_q (q_asg rfl rfl) rfl rfl ?_
  refine V_q (q_asg rfl rfl) rfl rfl ?_
  refine V_next (fun _ => rfl) ?_
  refine T_ret fun w h' => ?_
  have q : DevsP _ w (doR m e E.i E.v).l As' := h'.atom (A := aDevs (doR m e E.i E.v).l As') (by repeat (first | with_reducible exact In.head | apply In.tail))
  have hAs : As'.set e A1 = As' := set_same hA1
  have h2 := h'.know (aDevs ((doR m e E.i E.v).l.set e { x1 with pc := x1.pc + 1 }) (As'.set e A1)) (q.set e (x := { x1 with pc := x1.pc + 1 }) (A := A1) (q.2 e x1 A1 hx1 hA1).1 (q.2 e x1 A1 hx1 hA1).2.1 (q.2 e x1 A1 hx1 hA1).2.2)
  rw [hAs] at h2
  have hm : doM m e E.i E.v = ⟨(doR m e E.i E.v).l.set e { x1 with pc := x1.pc + 1 }, (doR m e E.i E.v).bag, (doR m e E.i E.v).sent⟩ := by
    rw [doM_eq m e E.i E.v (by rw [h.len]; exact hen), dev_of hx1]
  rw [hm]
  exact ⟨_, res_2 rfl rfl, (As', EB'), trivial, rfl, h2.pick (by repeat (first | with_reducible exact Pick.nil | apply Pick.cons (by repeat (first | with_reducible exact Sel.head | apply Sel.tail)))) (by simp)⟩

/-- how many of the picks did something -/
def didZ (ev : EvF) : Mac → List Int → Nat
  | _, [] => 0
  | m, p :: ps => (if canZ m p = true then 1 else 0) + didZ ev (stepZ ev m p) ps
theorem didZ_snoc (ev : EvF) : ∀ (ps : List Int) (m : Mac) (p : Int), didZ ev m (ps ++ [p]) = didZ ev m ps + if canZ (runZ ev m ps) p = true then 1 else 0
  | [], m, p => by show (if canZ m p = true then 1 else 0) + 0 = 0 + (if canZ m p = true then 1 else 0); omega
  | q :: ps, m, p => by
    rw [List.cons_append, didZ, didZ, didZ_snoc ev ps (stepZ ev m q) p, Nat.add_assoc]
    rfl
theorem runZ_snoc (ev : EvF) (ps : List Int) (m : Mac) (p : Int) : runZ ev m (ps ++ [p]) = stepZ ev (runZ ev m ps) p := by simp [runZ]
theorem didZ_le (ev : EvF) : ∀ (ps : List Int) (m : Mac), didZ ev m ps ≤ ps.length
  | [], _ => Nat.le_refl _
  | p :: ps, m => by
    have := didZ_le ev ps (stepZ ev m p)
    rw [didZ, List.length_cons]
    split <;> omega

theorem c_Run {ev : EvF} {n : Nat} {G : Nat → List Tn} {es : List EvT} (hr : Run ev n G es) (m : Mac) (h : MInv es n G m) (y : MacA) (ps : List Int) (a : Option Addr) (k c : Nat) (hk : k ≤ 4000) : Con Tryz.prog 33 #[.pointer (some ⟨y.g, 0, none⟩), .slice a k c] (macO n m y) (aSl I ps a k c :: macF m y)
    (fun _ : List DA × List (Key3 × Value) => True) (fun _ => .tuple #[.int .i64 (didZ ev m ps), .int .i64 0]) (fun z => macO n (runZ ev m ps) { y with As := z.1, EB := z.2 }) (fun z => macF (runZ ev m ps) { y with As := z.1, EB := z.2 }) := by
  refine con_of (n := 36) Tryz.func33 rfl rfl rfl (by simp) ?_
  intro C hC
  refine T_pure (φ := k = ps.length ∧ k ≤ c) (fun w h => ⟨(sl_len h (xs := ps) (a := a) (n := k) (c := c) (by repeat (first | with_reducible exact In.head | apply In.tail))).1, (sl_len h (xs := ps) (a := a) (n := k) (c := c) (by repeat (first | with_reducible exact In.head | apply In.tail))).2.1⟩) (fun hl => ?_)
  obtain ⟨hkl, hkc⟩ := hl
  refine T_seq (T_reg rfl ?_)
  refine V_q (q_asg rfl rfl) rfl rfl ?_
  refine V_q (q_asg rfl rfl) rfl rfl ?_
  refine V_next (fun _ => rfl) ?_
  refine T_seq (T_reg rfl ?_)
  refine V_q (q_asg rfl rfl) rfl rfl ?_
  refine V_next (fun _ => rfl) ?_
  refine T_seq ?_
  refine T_seq (T_reg rfl ?_)
  refine V_q (q_mov rfl rfl) rfl rfl ?_
  refine V_q (q_mov rfl rfl) rfl rfl ?_
  refine V_q (q_len rfl Tryz.underlying22 rfl) rfl rfl ?_
  refine V_q (Qu.eq (Y := .int .i64 (k : Int)) (q_min rfl rfl rfl) (by rw [if_neg (by omega)])) rfl rfl ?_
  refine V_q (q_slH rfl Tryz.underlying22 ty3 rfl rfl (by omega)) rfl rfl ?_
  refine V_q (q_len rfl Tryz.underlying22 rfl) rfl rfl ?_
  refine V_q (q_mov rfl rfl) rfl rfl ?_
  refine V_next (fun _ => rfl) ?_
  refine T_block ?_
  refine T_loop (fun z : Nat × List DA × List (Key3 × Value) => [(0, .pointer (some ⟨y.g, 0, none⟩)), (6, .int .i64 (didZ ev m (ps.take z.1))), (15, .slice a k c), (16, .int .i64 k), (17, .int .i64 z.1)]) (fun z => macO n (runZ ev m (ps.take z.1)) { y with As := z.2.1, EB := z.2.2 }) (fun z => aSl I ps a k c :: macF (runZ ev m (ps.take z.1)) { y with As := z.2.1, EB := z.2.2 }) (fun z => z.1 ≤ k) (fun z => k - z.1) (0, y.As, y.EB) (Nat.zero_le _) ⟨rfl, rfl, rfl, rfl, rfl, trivial⟩ (fun w h => h) ?_
  rintro ⟨i, As, EB⟩ hi
  replace hi : i ≤ k := hi
  have hm : MInv es n G (runZ ev m (ps.take i)) := MInv.ranZ hr.good _ h
  refine T_seq (T_reg rfl ?_)
  refine V_q (q_lt rfl rfl rfl) rfl rfl ?_
  refine V_next (fun _ => rfl) ?_
  refine T_seq ?_
  refine T_cond rfl (fun hb => ?_) (fun hb => ?_)
  rotate_left
  · have hie : i = k := by
      have : ¬ (i : Int) < k := by simpa using hb
      omega
    refine T_exit_next (fun _ => rfl) ?_
    have htk : ps.take i = ps := List.take_of_length_le (by omega)
    rw [htk]
    refine T_seq (T_reg rfl ?_)
    refine V_q (q_mov rfl rfl) rfl rfl ?_
    refine V_q (q_asg rfl rfl) rfl rfl ?_
    refine V_q (q_asg rfl rfl) rfl rfl ?_
    refine V_next (fun _ => rfl) ?_
    exact T_ret fun w h => ⟨_, res_2 rfl rfl, (As, EB), trivial, rfl, h.pick (by repeat (first | with_reducible exact Pick.nil | apply Pick.cons (by repeat (first | with_reducible exact Sel.head | apply Sel.tail)))) (by simp)⟩
  have hin : i < k := by
    have : (i : Int) < k := by simpa using hb
    omega
  clear hb
  have hti : ps.take (i + 1) = ps.take i ++ [ps[i]] := List.take_succ_eq_append_getElem (by omega)
  have hr1 : runZ ev m (ps.take (i + 1)) = stepZ ev (runZ ev m (ps.take i)) ps[i] := by rw [hti, runZ_snoc]
  have hd1 : didZ ev m (ps.take (i + 1)) = didZ ev m (ps.take i) + if canZ (runZ ev m (ps.take i)) ps[i] = true then 1 else 0 := by rw [hti, didZ_snoc]
  have hdl : didZ ev m (ps.take i) ≤ i := by
    have := didZ_le ev (ps.take i) m
    rw [List.length_take] at this; omega
  refine T_skip_next (fun _ => rfl) ?_
  refine T_seq ?_
  refine T_block ?_
  refine T_seq (T_reg rfl ?_)
  refine V_q (q_iaN rfl Tryz.underlying22 ty3 rfl rfl (by omega) (by repeat (first | with_reducible exact In.head | apply In.tail))) rfl rfl ?_
  refine V_q (q_ldN rfl ty3 rfl (by repeat (first | with_reducible exact In.head | apply In.tail)) (by omega)) rfl rfl ?_
  refine V_q (q_asg rfl rfl) rfl rfl ?_
  refine V_next (fun _ => rfl) ?_
  rw [getD_get (by omega)]
  refine T_seq (T_reg rfl ?_)
  refine V_q (q_mov rfl rfl) rfl rfl ?_
  refine V_q (q_mov rfl rfl) rfl rfl ?_
  refine V_l (l_call rfl ent34 rfl (c_Step hr (runZ ev m (ps.take i)) hm { y with As := As, EB := EB } ps[i]) (by repeat (first | with_reducible exact Pick.nil | apply Pick.cons (by repeat (first | with_reducible exact Sel.head | apply Sel.tail)))) (by repeat (first | with_reducible exact Ins.nil | refine Ins.cons (by repeat (first | with_reducible exact In.head | apply In.tail)) ?_)) (fun _ => (by repeat (first | with_reducible exact App.nil | apply App.cons))) (fun _ => (by repeat (first | with_reducible exact App.nil | apply App.cons)))) rfl rfl ?_; rintro ⟨As', EB'⟩ -
  refine V_q (q_mov rfl rfl) rfl rfl ?_
  refine V_q (q_ext rfl rfl rfl) rfl rfl ?_
  refine V_q (q_ext rfl rfl rfl) rfl rfl ?_
  refine V_q (q_asg rfl rfl) rfl rfl ?_
  refine V_q (q_asg rfl rfl) rfl rfl ?_
  refine V_next (fun _ => rfl) ?_
  refine T_seq ?_
  refine T_seq (T_reg rfl ?_)
  refine V_q (q_mov rfl rfl) rfl rfl ?_
  refine V_q (q_ne rfl rfl rfl) rfl rfl ?_
  refine V_next (fun _ => rfl) ?_
  refine T_cond rfl (fun hb => ?_) (fun hb => ?_)
  · simp at hb
  refine T_skip_next (fun _ => rfl) ?_
  refine T_seq (T_reg rfl ?_)
  refine V_q (q_mov rfl rfl) rfl rfl ?_
  refine V_next (fun _ => rfl) ?_
  rw [← hr1]
  refine T_cond rfl (fun hb => ?_) (fun hb => ?_)
  · rw [hb, if_pos rfl] at hd1
    refine T_reg rfl ?_
    refine V_q (q_mov rfl rfl) rfl rfl ?_
    refine V_q (q_addE ((didZ ev m (ps.take i) + 1 : Nat) : Int) rfl rfl rfl (by show (didZ ev m (ps.take i) : Int) + 1 = _; omega) (by omega)) rfl rfl ?_
    refine V_q (q_asg rfl rfl) rfl rfl ?_
    refine V_next (fun _ => rfl) ?_
    rw [← hd1]
    refine T_reg rfl ?_
    refine V_q (q_addI rfl rfl rfl (by omega)) rfl rfl ?_
    refine V_q (q_mov rfl rfl) rfl rfl ?_
    refine V_nil ?_
    exact fun w h => ⟨(i + 1, As', EB'), ⟨by show k - (i + 1) < k - i; omega, by show i + 1 ≤ k; omega⟩, ⟨rfl, rfl, rfl, rfl, rfl, trivial⟩, h.pick (by repeat (first | with_reducible exact Pick.nil | apply Pick.cons (by repeat (first | with_reducible exact Sel.head | apply Sel.tail)))) (by simp)⟩
  · rw [hb] at hd1
    simp only [Bool.false_eq_true, if_false, Nat.add_zero] at hd1
    rw [← hd1]
    refine T_skip_next (fun _ => rfl) ?_
    refine T_reg rfl ?_
    refine V_q (q_addI rfl rfl rfl (by omega)) rfl rfl ?_
    refine V_q (q_mov rfl rfl) rfl rfl ?_
    refine V_nil ?_
    exact fun w h => ⟨(i + 1, As', EB'), ⟨by show k - (i + 1) < k - i; omega, by show i + 1 ≤ k; omega⟩, ⟨rfl, rfl, rfl, rfl, rfl, trivial⟩, h.pick (by repeat (first | with_reducible exact Pick.nil | apply Pick.cons (by repeat (first | with_reducible exact Sel.head | apply Sel.tail)))) (by simp)⟩
end Go.Proofs.YtgbhegmhbeekpaaGreat
