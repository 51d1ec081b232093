/-
  Registers; what an instruction does.
-/
import Derived.Test.YtgbhegmhbeekpaaGreatZ13
namespace Go.Proofs.YtgbhegmhbeekpaaGreat
open Go
set_option maxRecDepth 100000

abbrev rDA (A : DA) : Res := rMap kI A.rr A.E
section
variable {C : Ctx} {own rest : List Res} {ats : List Atom} {w : World} {As : List DA} {d : Nat} {A : DA}
theorem St.mapOut (h : St C own ats w) (hs : Sel own (rAll (As.map rDA)) rest) (hA : As[d]? = some A) : St C (rMap kI A.rr A.E :: rAll ((As.take d ++ As.drop (d + 1)).map rDA) :: rest) ats w := by
  have e1 : As.map rDA = (As.take d).map rDA ++ rDA A :: (As.drop (d + 1)).map rDA := by
    conv => lhs; rw [split_at hA]
    rw [List.map_append, List.map_cons]
  rw [e1] at hs
  rw [List.map_append]
  exact h.out hs
theorem St.mapBack {E : List (Int × Value)} (h : St C own ats w) (hd : d < As.length) (hp : Pick own [rMap kI A.rr E, rAll ((As.take d ++ As.drop (d + 1)).map rDA)] rest) : St C (rAll ((As.set d { A with E := E }).map rDA) :: rest) ats w := by
  have e1 : (As.set d { A with E := E }).map rDA = (As.take d).map rDA ++ rMap kI A.rr E :: (As.drop (d + 1)).map rDA := by
    rw [set_at hd, List.map_append, List.map_cons]
  rw [e1]
  rw [List.map_append] at hp
  exact h.back hp
theorem St.mapSame (h : St C own ats w) (hA : As[d]? = some A) (hp : Pick own [rMap kI A.rr A.E, rAll ((As.take d ++ As.drop (d + 1)).map rDA)] rest) : St C (rAll (As.map rDA) :: rest) ats w := by
  have := h.mapBack (List.getElem?_eq_some_iff.1 hA).1 hp
  have e : As.set d { A with E := A.E } = As := set_same hA
  rwa [e] at this
end
section
variable {P : Program} {nn : Nat} {l : LEnv} {C : Ctx} {own : List Res} {ats : List Atom} {Q : Exit → LEnv → World → Prop}
theorem T_lkI {cd : Code} {B : List (Int × Tn)} {E : List (Int × Value)} (k : Int) (hs : In (aMp rTn B E) ats)
    (h : ∀ pa pn pc qa qn qc, (lkE E k).getD zT = .agg #[.slice pa pn pc, .slice qa qn qc] → (lkE E k).isSome = (lkE B k).isSome → T P nn cd l C own (aSl I ((lkE B k).getD Tn0).sh pa pn pc :: aSl I ((lkE B k).getD Tn0).da qa qn qc :: ats) Q) : T P nn cd l C own ats Q := by
  intro w hw
  have h0 : Mp rTn _ w B E := hw.atom hs
  rcases h0.lk k with ⟨h1, h2⟩ | ⟨x, cs, h1, h2, pa, pn, pc, qa, qn, qc, h3, h4, h5⟩
  · have e1 : (lkE B k).getD Tn0 = Tn0 := by rw [h1]; rfl
    rw [e1] at h
    exact h none 0 0 none 0 0 (by rw [h2]; rfl) (by rw [h1, h2]; rfl) w ((hw.nil I).nil I)
  · have e1 : (lkE B k).getD Tn0 = x := by rw [h1]; rfl
    rw [e1] at h
    subst h3
    exact h pa pn pc qa qn qc (by rw [h2]; rfl) (by rw [h1, h2]; rfl) w ((hw.know (aSl I x.da qa qn qc) h5).know (aSl I x.sh pa pn pc) h4)
end

def regZ (m : Mac) (d r : Int) : Option Tn := if 0 ≤ d ∧ d < m.l.length then lkE (m.dev d.toNat).regs r else none
theorem SmT0 : SmT Tn0 := ⟨by simp [Tn0], by simp [Tn0]⟩

theorem c_Reg {n : Nat} (m : Mac) (y : MacA) (hn : m.l.length = n) (d r : Int) (hs : SmT ((regZ m d r).getD Tn0)) : Con Tryz.prog 35 #[.pointer (some ⟨y.g, 0, none⟩), .int .i64 d, .int .i64 r] (macO n m y) (macF m y)
    (fun _ : (Option Addr × Nat × Nat) × Option Addr × Nat × Nat => True) (fun z => .tuple #[.agg #[.slice z.1.1 z.1.2.1 z.1.2.2, .slice z.2.1 z.2.2.1 z.2.2.2], .bool (regZ m d r).isSome]) (fun _ => macO n m y)
    (fun z => [aSl I ((regZ m d r).getD Tn0).sh z.1.1 z.1.2.1 z.1.2.2, aSl I ((regZ m d r).getD Tn0).da z.2.1 z.2.2.1 z.2.2.2]) := by
  refine con_of (n := 31) Tryz.func35 rfl rfl rfl (by simp) ?_
  intro C hC
  have ct := c_there y.g n y.c (some ⟨y.gl, 0, none⟩) d (.pointer (some ⟨y.gb, 0, none⟩)) (.int .i64 m.sent)
  by_cases hd : 0 ≤ d ∧ d < n
  rotate_left
  · rw [decide_eq_false hd] at ct
    have hr : regZ m d r = none := by unfold regZ; rw [if_neg (by rw [hn]; exact hd)]
    rw [hr]
    refine T_seq (T_reg rfl ?_)
    refine V_l (l_alloc (cs := [.slice none 0 0, .slice none 0 0]) rfl tz28 rfl) rfl rfl ?_; rintro g6 -
    refine V_q (q_asg rfl rfl) rfl rfl ?_
    refine V_next (fun _ => rfl) ?_
    refine T_seq ?_
    refine T_seq (T_reg rfl ?_)
    refine V_q (q_mov rfl rfl) rfl rfl ?_
    refine V_q (q_mov rfl rfl) rfl rfl ?_
    refine V_l (l_call rfl ent66 rfl (ct) (by repeat (first | with_reducible exact Pick.nil | apply Pick.cons (by repeat (first | with_reducible exact Sel.head | apply Sel.tail)))) (by repeat (first | with_reducible exact Ins.nil | refine Ins.cons (by repeat (first | with_reducible exact In.head | apply In.tail)) ?_)) (fun _ => (by repeat (first | with_reducible exact App.nil | apply App.cons))) (fun _ => (by repeat (first | with_reducible exact App.nil | apply App.cons)))) rfl rfl ?_; rintro g12 -
    refine V_q (q_not rfl rfl) rfl rfl ?_
    refine V_next (fun _ => rfl) ?_
    refine T_cond rfl (fun hb => ?_) (fun hb => ?_)
    · refine T_seq (T_reg rfl ?_)
      refine V_q (q_buildS rfl pl28 tz28 rfl rfl (by repeat (first | exact FillL.nil | apply FillL.cons rfl rfl (by repeat (first | exact PutL.z | apply PutL.s | apply PutL.t))))) rfl rfl ?_
      refine V_n (l_st rfl ty28 rfl rfl rfl rfl rfl (by repeat (first | with_reducible exact Put.head | apply Put.tail)) (by repeat (first | exact PutL.z | apply PutL.s | apply PutL.t))) rfl rfl ?_; rintro ⟨⟩ -
      refine V_q (q_asg rfl rfl) rfl rfl ?_
      refine V_next (fun _ => rfl) ?_
      refine T_ghost (fun w h => (h.nil I).nil I) ?_
      exact T_ret fun w h => ⟨_, res_ct rfl ty28 rfl (h.res (by repeat (first | with_reducible exact Sel.head | apply Sel.tail))) rfl, ((none, 0, 0), none, 0, 0), trivial, rfl, h.pick (by repeat (first | with_reducible exact Pick.nil | apply Pick.cons (by repeat (first | with_reducible exact Sel.head | apply Sel.tail)))) (by simp [Tn0])⟩
    · cases hb
  rw [decide_eq_true hd] at ct
  obtain ⟨e, he⟩ : ∃ e : Nat, d = e := ⟨d.toNat, by omega⟩
  subst he
  have hen : e < n := by omega
  refine T_dev e (L := m.l) (As := y.As) (by repeat (first | with_reducible exact In.head | apply In.tail)) (by omega) fun x A hx hA => ?_
  have hr : regZ m (e : Int) r = lkE x.regs r := by unfold regZ; rw [if_pos (by rw [hn]; exact hd), Int.toNat_natCast, dev_of hx]
  rw [hr] at hs ⊢
  refine T_lkI r (B := x.regs) (E := A.E) (by repeat (first | with_reducible exact In.head | apply In.tail)) fun pa pn pc qa qn qc e1 e2 => ?_
  refine T_pure (φ := pn * 8 ≤ 140737488355328 ∧ qn * 8 ≤ 140737488355328) (fun w h => ?_) (fun hx2 => ?_)
  · have l0 := (sl_len h (xs := ((lkE x.regs r).getD Tn0).sh) (a := pa) (n := pn) (c := pc) (by repeat (first | with_reducible exact In.head | apply In.tail))).1
    have l1 := (sl_len h (xs := ((lkE x.regs r).getD Tn0).da) (a := qa) (n := qn) (c := qc) (by repeat (first | with_reducible exact In.head | apply In.tail))).1
    obtain ⟨h1, h2⟩ := hs
    omega
  refine T_seq (T_reg rfl ?_)
  refine V_l (l_alloc (cs := [.slice none 0 0, .slice none 0 0]) rfl tz28 rfl) rfl rfl ?_; rintro g6 -
  refine V_q (q_asg rfl rfl) rfl rfl ?_
  refine V_next (fun _ => rfl) ?_
  refine T_seq ?_
  refine T_seq (T_reg rfl ?_)
  refine V_q (q_mov rfl rfl) rfl rfl ?_
  refine V_q (q_mov rfl rfl) rfl rfl ?_
  refine V_l (l_call rfl ent66 rfl (ct) (by repeat (first | with_reducible exact Pick.nil | apply Pick.cons (by repeat (first | with_reducible exact Sel.head | apply Sel.tail)))) (by repeat (first | with_reducible exact Ins.nil | refine Ins.cons (by repeat (first | with_reducible exact In.head | apply In.tail)) ?_)) (fun _ => (by repeat (first | with_reducible exact App.nil | apply App.cons))) (fun _ => (by repeat (first | with_reducible exact App.nil | apply App.cons)))) rfl rfl ?_; rintro g12 -
  refine V_q (q_not rfl rfl) rfl rfl ?_
  refine V_next (fun _ => rfl) ?_
  refine T_cond rfl (fun hb => ?_) (fun hb => ?_)
  · cases hb
  refine T_skip_next (fun _ => rfl) ?_
  refine T_ghost (fun w h => h.mapOut (As := y.As) (by repeat (first | with_reducible exact Sel.head | apply Sel.tail)) hA) ?_
  refine T_seq (T_reg rfl ?_)
  refine V_q (q_mov rfl rfl) rfl rfl ?_
  refine V_q (q_nil rfl rfl) rfl rfl ?_
  refine V_q (q_fa rfl fd104_0 rfl) rfl rfl ?_
  refine V_q (q_ld rfl ty102 rfl (by repeat (first | with_reducible exact Sel.head | apply Sel.tail)) rfl) rfl rfl ?_
  refine V_q (q_mov rfl rfl) rfl rfl ?_
  refine V_q (q_iaD rfl Tryz.underlying102 ty108 rfl rfl hen) rfl rfl ?_
  refine V_q (q_faR rfl fd108_2 rfl) rfl rfl ?_
  refine V_q (q_ld rfl ty106 rfl (by repeat (first | with_reducible exact Sel.head | apply Sel.tail)) (nd2_ hx hA)) rfl rfl ?_
  refine V_q (q_mov rfl rfl) rfl rfl ?_
  refine V_q (q_lookup2E r rfl Tryz.underlying106 ktI tz28 rfl rfl (by repeat (first | with_reducible exact Sel.head | apply Sel.tail)) e1 e2) rfl rfl ?_
  refine V_q (q_mov rfl rfl) rfl rfl ?_
  refine V_q (q_ext rfl rfl rfl) rfl rfl ?_
  refine V_q (q_ext rfl rfl rfl) rfl rfl ?_
  refine V_l (l_alloc (cs := [.slice none 0 0, .slice none 0 0]) rfl tz28 rfl) rfl rfl ?_; rintro g8 -
  refine V_n (l_st rfl ty28 rfl rfl rfl rfl rfl (by repeat (first | with_reducible exact Put.head | apply Put.tail)) (by repeat (first | exact PutL.z | apply PutL.s | apply PutL.t))) rfl rfl ?_; rintro ⟨⟩ -
  refine V_q (q_asg rfl rfl) rfl rfl ?_
  refine V_next (fun _ => rfl) ?_
  refine T_seq (T_reg rfl ?_)
  refine V_q (q_ldA rfl ty28 rfl (by repeat (first | with_reducible exact Sel.head | apply Sel.tail)) (by repeat (first | exact SubL.z | apply SubL.s | apply SubL.t))) rfl rfl ?_
  refine V_l (l_call rfl ent61 rfl (c_Copy ((lkE x.regs r).getD Tn0).sh ((lkE x.regs r).getD Tn0).da pa qa pn pc qn qc hx2.1 hx2.2) (by repeat (first | with_reducible exact Pick.nil | apply Pick.cons (by repeat (first | with_reducible exact Sel.head | apply Sel.tail)))) (by repeat (first | with_reducible exact Ins.nil | refine Ins.cons (by repeat (first | with_reducible exact In.head | apply In.tail)) ?_)) (fun _ => (by repeat (first | with_reducible exact App.nil | apply App.cons))) (fun _ => (by repeat (first | with_reducible exact App.nil | apply App.cons)))) rfl rfl ?_; rintro ⟨⟨a', c'⟩, b', d'⟩ -
  refine V_q (q_mov rfl rfl) rfl rfl ?_
  refine V_n (l_st rfl ty28 rfl rfl rfl rfl rfl (by repeat (first | with_reducible exact Put.head | apply Put.tail)) (by repeat (first | exact PutL.z | apply PutL.s | apply PutL.t))) rfl rfl ?_; rintro ⟨⟩ -
  refine V_q (q_asg rfl rfl) rfl rfl ?_
  refine V_next (fun _ => rfl) ?_
  refine T_ret fun w h => ?_
  have h1 := h.mapSame (As := y.As) hA (by repeat (first | with_reducible exact Pick.nil | apply Pick.cons (by repeat (first | with_reducible exact Sel.head | apply Sel.tail))))
  exact ⟨_, res_ct rfl ty28 rfl (h1.res (by repeat (first | with_reducible exact Sel.head | apply Sel.tail))) rfl, ((a', pn, c'), b', qn, d'), trivial, rfl, h1.pick (by repeat (first | with_reducible exact Pick.nil | apply Pick.cons (by repeat (first | with_reducible exact Sel.head | apply Sel.tail)))) (by simp)⟩

theorem c_MBag {n : Nat} (m : Mac) (y : MacA) (hs : m.bag.length ≤ 1000) (ht : ∀ p ∈ m.bag, SmT p.2) : Con Tryz.prog 36 #[.pointer (some ⟨y.g, 0, none⟩)] (macO n m y) (macF m y)
    (fun _ : Option Addr × Nat => True) (fun z => .slice z.1 m.bag.length z.2) (fun _ => macO n m y) (fun _ => []) := by
  refine con_of (n := 8) Tryz.func36 rfl rfl rfl (by simp) ?_
  intro C hC
  refine T_seq (T_reg rfl ?_)
  refine V_q (q_asg rfl rfl) rfl rfl ?_
  refine V_next (fun _ => rfl) ?_
  refine T_seq (T_reg rfl ?_)
  refine V_q (q_mov rfl rfl) rfl rfl ?_
  refine V_q (q_nil rfl rfl) rfl rfl ?_
  refine V_q (q_fa rfl fd104_1 rfl) rfl rfl ?_
  refine V_q (q_ld rfl ty100 rfl (by repeat (first | with_reducible exact Sel.head | apply Sel.tail)) rfl) rfl rfl ?_
  refine V_l (l_call rfl ent67 rfl (c_All y.gb y.rb m.bag y.EB ht (by omega)) (by repeat (first | with_reducible exact Pick.nil | apply Pick.cons (by repeat (first | with_reducible exact Sel.head | apply Sel.tail)))) (by repeat (first | with_reducible exact Ins.nil | refine Ins.cons (by repeat (first | with_reducible exact In.head | apply In.tail)) ?_)) (fun _ => (by repeat (first | with_reducible exact App.nil | apply App.cons))) (fun _ => (by repeat (first | with_reducible exact App.nil | apply App.cons)))) rfl rfl ?_; rintro ⟨aa, ac⟩ -
  refine V_q (q_asg rfl rfl) rfl rfl ?_
  refine V_next (fun _ => rfl) ?_
  exact T_ret fun w h => ⟨_, res_1 rfl, (aa, ac), trivial, rfl, h.pick (by repeat (first | with_reducible exact Pick.nil | apply Pick.cons (by repeat (first | with_reducible exact Sel.head | apply Sel.tail)))) (by simp)⟩

/-- what a node gives -/
def NodeCon (nd : Nd) (ins : List Tn) (v : Tn) : Prop := ∀ (a1 a2 a3 a : Option Addr) (n1 c1 n2 c2 n3 c3 n c : Nat), Con Tryz.prog 94 #[.agg (ndC nd a1 n1 c1 a2 n2 c2 a3 n3 c3).toArray, .slice a n c] []
    [aSl I nd.inn a1 n1 c1, aSl I nd.sh a2 n2 c2, aSl I nd.a a3 n3 c3, aSl rTn ins a n c]
    (fun _ : (Option Addr × Nat × Nat) × Option Addr × Nat × Nat => True) (fun z => .tuple #[.agg #[.slice z.1.1 z.1.2.1 z.1.2.2, .slice z.2.1 z.2.2.1 z.2.2.2], .int .i64 0]) (fun _ => [])
    (fun z => [aSl I v.sh z.1.1 z.1.2.1 z.1.2.2, aSl I v.da z.2.1 z.2.2.1 z.2.2.2])

/-- the instruction's work, ahead of the place's going on -/
def doR (m : Mac) (d : Nat) (i : Inst) (v : Tn) : Mac :=
  if i.kind = 3 then ⟨m.l, m.bag ++ [(((d : Int), i.dev, i.tag), v)], m.sent + 1⟩
  else ⟨m.l.set d { m.dev d with regs := putE (m.dev d).regs i.out v }, if i.kind = 4 then delE m.bag (i.dev, (d : Int), i.tag) else m.bag, m.sent⟩

theorem Mp.getTn {M : List Nat} {w : World} {B : List (Int × Tn)} {E : List (Int × Value)} (h : Mp rTn M w B E) (k : Int) : ∃ pa pn pc qa qn qc, (lkE E k).getD zT = .agg #[.slice pa pn pc, .slice qa qn qc] ∧ rTn.p M w ((lkE B k).getD Tn0) [.slice pa pn pc, .slice qa qn qc] := by
  rcases h.lk k with ⟨h1, h2⟩ | ⟨x, cs, h1, h2, pa, pn, pc, qa, qn, qc, h3, h4, h5⟩
  · exact ⟨none, 0, 0, none, 0, 0, by rw [h2]; rfl, by rw [h1]; exact ⟨none, 0, 0, none, 0, 0, rfl, SlP.nil _ _ _, SlP.nil _ _ _⟩⟩
  · subst h3
    exact ⟨pa, pn, pc, qa, qn, qc, by rw [h2]; rfl, by rw [h1]; exact ⟨pa, pn, pc, qa, qn, qc, rfl, h4, h5⟩⟩

section
variable {P : Program} {nn : Nat} {l : LEnv} {C : Ctx} {own : List Res} {ats : List Atom} {Q : Exit → LEnv → World → Prop}
theorem T_tn {cd : Code} {xs : List Tn} {a : Option Addr} {n c : Nat} (i : Nat) (hs : In (aSl rTn xs a n c) ats) (hi : i < n)
    (h : ∀ x ad pa pn pc qa qn qc, xs[i]? = some x → ea a i 2 = some ad → T P nn cd l C own (aCells ad [.slice pa pn pc, .slice qa qn qc] :: aSl I x.sh pa pn pc :: aSl I x.da qa qn qc :: ats) Q) : T P nn cd l C own ats Q := by
  intro w hw
  have h1 : SlP rTn _ _ _ _ _ _ := hw.atom hs
  have hx : i < xs.length := by have := h1.1; omega
  obtain ⟨ad, cs, e1, e2, pa, pn, pc, qa, qn, qc, rfl, e4, e5⟩ := h1.el hi hx
  exact h xs[i] ad pa pn pc qa qn qc (List.getElem?_eq_getElem hx) e1 w (((hw.know (aSl I xs[i].da qa qn qc) e5).know (aSl I xs[i].sh pa pn pc) e4).know (aCells ad _) e2)
end
theorem devs_upd : ∀ {l : List Dev} {As : List DA} {d : Nat} {x x' : Dev} {A A' : DA}, l[d]? = some x → As[d]? = some A → devC x' A' = devC x A → devs (l.set d x') (As.set d A') = devs l As
  | [], _, d, _, _, _, _, h, _, _ => by simp at h
  | _ :: _, [], d, _, _, _, _, _, h, _ => by simp at h
  | y :: l, B :: As, 0, x, x', A, A', h1, h2, he => by
    simp only [List.getElem?_cons_zero, Option.some.injEq] at h1 h2; subst h1; subst h2
    rw [List.set_cons_zero, List.set_cons_zero, devs, devs, he]
  | y :: l, B :: As, d + 1, x, x', A, A', h1, h2, he => by
    have ih := devs_upd (l := l) (As := As) (d := d) (by simpa using h1) (by simpa using h2) he
    rw [List.set_cons_succ, List.set_cons_succ, devs, devs, ih]

theorem c_do {n : Nat} (m : Mac) (y : MacA) (hn : m.l.length = n) (e : Nat) (hen : e < n) (i : Inst) (v : Tn) (ev : EvF) (hv : valM ev m e i = some v) (hk : i.kind = 1 ∨ i.kind = 2 ∨ i.kind = 3 ∨ i.kind = 4) (hi0 : i.kind = 1 → 0 ≤ i.n) (hi1 : i.kind = 3 → i.inn.length = 1)
    (hb3 : i.kind = 3 → lkE m.bag ((e : Int), i.dev, i.tag) = none) (hev : i.kind = 2 → ∀ ins, ev i.node ins = some v → NodeCon i.node ins v) (hsm : SmT v) (hil : i.inn.length ≤ 100000) (hse : m.sent ≤ 1000000)
    (a0 a1 a2 a3 : Option Addr) (n0 c0 n1 c1 n2 c2 n3 c3 : Nat) : Con Tryz.prog 65 #[.pointer (some ⟨y.g, 0, none⟩), .int .i64 e, .agg (instC i i.out a0 n0 c0 a1 n1 c1 a2 n2 c2 a3 n3 c3).toArray] (macO n m y)
    (aSl I i.inn a0 n0 c0 :: aSl I i.node.inn a1 n1 c1 :: aSl I i.node.sh a2 n2 c2 :: aSl I i.node.a a3 n3 c3 :: macF m y)
    (fun z : List DA × List (Key3 × Value) => devs (doR m e i v).l z.1 = devs m.l y.As) (fun _ => .int .i64 0) (fun z => [rBlk y.g 104 [.slice (some ⟨y.gl, 0, none⟩) n y.c, .pointer (some ⟨y.gb, 0, none⟩), .int .i64 (doR m e i v).sent], rBlk y.gl 108 (devs m.l y.As ++ y.sp), rBlk y.gb 137 [.map (some y.rb)], rMap κ3 y.rb z.2, rAll (z.1.map rDA)]) (fun z => macF (doR m e i v) { y with As := z.1, EB := z.2 }) := by
  refine con_of (n := 120) Tryz.func65 rfl rfl rfl (by simp) ?_
  intro C hC
  obtain ⟨kind, out, inn, node, nu, dev, tag⟩ := i
  replace hk : kind = 1 ∨ kind = 2 ∨ kind = 3 ∨ kind = 4 := hk
  replace hil : inn.length ≤ 100000 := hil
  refine T_dev e (L := m.l) (As := y.As) (by repeat (first | with_reducible exact In.head | apply In.tail)) (by omega) fun x A hx hA => ?_
  have hdev := dev_of hx
  have hAl : e < y.As.length := (List.getElem?_eq_some_iff.1 hA).1
  refine T_pure (φ := n0 = inn.length ∧ A.gn = x.given.length) (fun w h => ⟨(sl_len h (xs := inn) (a := a0) (n := n0) (c := c0) (by repeat (first | with_reducible exact In.head | apply In.tail))).1, (sl_len h (xs := x.given) (a := A.ga) (n := A.gn) (c := A.gc) (by repeat (first | with_reducible exact In.head | apply In.tail))).1⟩) (fun hln => ?_)
  obtain ⟨hn0, hgn⟩ := hln
  refine T_ghost (fun w h => h.mapOut (As := y.As) (by repeat (first | with_reducible exact Sel.head | apply Sel.tail)) hA) ?_
  refine T_seq (T_reg rfl ?_)
  refine V_l (l_boxA rfl rfl) rfl rfl ?_; rintro g5 -
  refine V_q (q_asg rfl rfl) rfl rfl ?_
  refine V_next (fun _ => rfl) ?_
  refine T_seq (T_reg rfl ?_)
  refine V_q (q_mov rfl rfl) rfl rfl ?_
  refine V_q (q_nil rfl rfl) rfl rfl ?_
  refine V_q (q_fa rfl fd104_0 rfl) rfl rfl ?_
  refine V_q (q_ld rfl ty102 rfl (by repeat (first | with_reducible exact Sel.head | apply Sel.tail)) rfl) rfl rfl ?_
  refine V_q (q_mov rfl rfl) rfl rfl ?_
  refine V_q (q_iaD rfl Tryz.underlying102 ty108 rfl rfl hen) rfl rfl ?_
  refine V_q (q_asg rfl rfl) rfl rfl ?_
  refine V_next (fun _ => rfl) ?_
  refine T_seq (T_reg rfl ?_)
  refine V_l (l_alloc (cs := [.slice none 0 0, .slice none 0 0]) rfl tz28 rfl) rfl rfl ?_; rintro g8 -
  refine V_next (fun _ => rfl) ?_
  refine T_seq ?_
  refine T_seq (T_reg rfl ?_)
  refine V_q (q_fa rfl fd112_0 rfl) rfl rfl ?_
  refine V_q (q_ld rfl ty3 rfl (by repeat (first | with_reducible exact Sel.head | apply Sel.tail)) rfl) rfl rfl ?_
  refine V_next (fun _ => rfl) ?_
  refine T_block ?_
  rcases hk with rfl | rfl | rfl | rfl
  · have h0 : 0 ≤ nu := hi0 rfl
    obtain ⟨nn, rfl⟩ : ∃ nn : Nat, nu = nn := ⟨nu.toNat, by omega⟩
    unfold valM at hv
    rw [if_pos rfl, hdev] at hv
    have hv' : x.given[nn]? = some v := hv
    have hnl : nn < A.gn := by rw [hgn]; exact (List.getElem?_eq_some_iff.1 hv').1
    refine T_tn nn (xs := x.given) (a := A.ga) (by repeat (first | with_reducible exact In.head | apply In.tail)) hnl fun v' ad ra rn rc sa' sn sc hv2 had => ?_
    rw [hv'] at hv2; injection hv2 with hv2; subst hv2
    refine T_seq (T_reg rfl ?_)
    refine V_q (q_eq rfl rfl rfl) rfl rfl ?_
    refine V_q (q_asg rfl rfl) rfl rfl ?_
    refine V_next (fun _ => rfl) ?_
    refine T_cond rfl (fun hb => ?_) (fun hb => ?_)
    rotate_left
    · simp at hb
    refine T_seq ?_
    refine T_seq (T_drawn hmix (.pure 0 <| .quiet 1 <| .pure 2 <| .pure 3 <| .pure 4 <| .quiet 5 <| .pure 6 <| .pure 7 <| .fin) (by decide +kernel) ?_)
    refine W_p rfl (q_fa rfl fd112_4 rfl) rfl rfl ?_
    refine W_ld rfl rfl ty3 rfl (by repeat (first | with_reducible exact Sel.head | apply Sel.tail)) rfl rfl rfl ?_
    refine W_p rfl (q_mov rfl rfl) rfl rfl ?_
    refine W_p rfl (q_nil rfl rfl) rfl rfl ?_
    refine W_p rfl (q_faR rfl fd108_3 rfl) rfl rfl ?_
    refine W_ld rfl rfl ty77 rfl (by repeat (first | with_reducible exact Sel.head | apply Sel.tail)) (nd3_ hx hA) rfl rfl ?_
    refine W_p rfl (q_len rfl Tryz.underlying77 rfl) rfl rfl ?_
    refine W_p rfl (q_ge rfl rfl rfl) rfl rfl ?_
    refine W_next (fun _ => rfl) ?_
    rw [decide_eq_false (show ¬ (A.gn : Int) ≤ nn by omega)]
    refine T_cond rfl (fun hb => ?_) (fun hb => ?_)
    · cases hb
    refine T_skip_next (fun _ => rfl) ?_
    refine T_drawn hmix (.pure 0 <| .pure 1 <| .pure 2 <| .quiet 3 <| .pure 4 <| .quiet 5 <| .pure 6 <| .quiet 7 <| .bar 8 <| .fin) (by decide +kernel) ?_
    refine W_p rfl (q_mov rfl rfl) rfl rfl ?_
    refine W_p rfl (q_nil rfl rfl) rfl rfl ?_
    refine W_p rfl (q_faR rfl fd108_3 rfl) rfl rfl ?_
    refine W_ld rfl rfl ty77 rfl (by repeat (first | with_reducible exact Sel.head | apply Sel.tail)) (nd3_ hx hA) rfl rfl ?_
    refine W_p rfl (q_fa rfl fd112_4 rfl) rfl rfl ?_
    refine W_ld rfl rfl ty3 rfl (by repeat (first | with_reducible exact Sel.head | apply Sel.tail)) rfl rfl rfl ?_
    refine W_p rfl (q_iaE rfl Tryz.underlying77 ty28 rfl rfl hnl had) rfl rfl ?_
    refine W_a rfl (q_ldRA rfl ty28 rfl rfl (by repeat (first | with_reducible exact In.head | apply In.tail))) rfl rfl ?_
    refine W_bn rfl (l_st rfl ty28 rfl rfl rfl rfl rfl (by repeat (first | with_reducible exact Put.head | apply Put.tail)) (by repeat (first | exact PutL.z | apply PutL.s | apply PutL.t))) rfl rfl ?_; rintro ⟨⟩ -
    refine W_next (fun _ => rfl) ?_
    refine T_seq (T_drawn hmix (.pure 0 <| .pure 1 <| .pure 2 <| .quiet 3 <| .pure 4 <| .quiet 5 <| .quiet 6 <| .bar 7 <| .fin) (by decide +kernel) ?_)
    refine W_p rfl (q_mov rfl rfl) rfl rfl ?_
    refine W_p rfl (q_nil rfl rfl) rfl rfl ?_
    refine W_p rfl (q_faR rfl fd108_2 rfl) rfl rfl ?_
    refine W_ld rfl rfl ty106 rfl (by repeat (first | with_reducible exact Sel.head | apply Sel.tail)) (nd2_ hx hA) rfl rfl ?_
    refine W_p rfl (q_fa rfl fd112_1 rfl) rfl rfl ?_
    refine W_ld rfl rfl ty3 rfl (by repeat (first | with_reducible exact Sel.head | apply Sel.tail)) rfl rfl rfl ?_
    refine W_ldA rfl rfl ty28 rfl (by repeat (first | with_reducible exact Sel.head | apply Sel.tail)) (by repeat (first | exact SubL.z | apply SubL.s | apply SubL.t)) rfl rfl ?_
    refine W_bn rfl (l_mapupd out rfl Tryz.underlying106 ktI rfl rfl rfl (by repeat (first | with_reducible exact Put.head | apply Put.tail))) rfl rfl ?_; rintro ⟨⟩ -
    refine W_next (fun _ => rfl) ?_
    refine T_seq (T_reg rfl ?_)
    refine V_q (q_asg rfl rfl) rfl rfl ?_
    refine V_next (fun _ => rfl) ?_
    refine T_ret fun w h => ?_
    have h1 := h.mapBack (As := y.As) (d := e) (A := A) hAl (by repeat (first | with_reducible exact Pick.nil | apply Pick.cons (by repeat (first | with_reducible exact Sel.head | apply Sel.tail))))
    have hd' : devs (m.l.set e { x with regs := putE x.regs out v }) (y.As.set e { A with E := putE A.E out (.agg #[.slice ra rn rc, .slice sa' sn sc]) }) = devs m.l y.As := devs_upd hx hA rfl
    have q : DevsP _ w m.l y.As := h1.atom (A := aDevs m.l y.As) (by repeat (first | with_reducible exact In.head | apply In.tail))
    have h2 := h1.know (aDevs (m.l.set e { x with regs := putE x.regs out v }) (y.As.set e { A with E := putE A.E out (.agg #[.slice ra rn rc, .slice sa' sn sc]) }))
      (q.set e (x := { x with regs := putE x.regs out v }) (A := { A with E := putE A.E out (.agg #[.slice ra rn rc, .slice sa' sn sc]) }) (q.2 e x A hx hA).1 (q.2 e x A hx hA).2.1 ((q.2 e x A hx hA).2.2.put out (cs := [.slice ra rn rc, .slice sa' sn sc]) ⟨_, _, _, _, _, _, rfl, h1.atom (A := aSl I v.sh ra rn rc) (by repeat (first | with_reducible exact In.head | apply In.tail)), h1.atom (A := aSl I v.da sa' sn sc) (by repeat (first | with_reducible exact In.head | apply In.tail))⟩))
    have hm : doR m e ⟨1, out, inn, node, (nn : Int), dev, tag⟩ v = ⟨m.l.set e { x with regs := putE x.regs out v }, m.bag, m.sent⟩ := by unfold doR; rw [if_neg (by show ¬ ((1 : Int) = 3); decide), hdev]; rfl
    rw [hm]
    refine ⟨_, res_1 rfl, (y.As.set e { A with E := putE A.E out (.agg #[.slice ra rn rc, .slice sa' sn sc]) }, y.EB), hd', rfl, h2.pick (by repeat (first | with_reducible exact Pick.nil | apply Pick.cons (by repeat (first | with_reducible exact Sel.head | apply Sel.tail)))) (by simp)⟩
  · unfold valM at hv
    rw [if_neg (by show ¬ ((2 : Int) = 1); decide), if_pos rfl, hdev] at hv
    have hv' : ev node (inn.map fun r => (lkE x.regs r).getD Tn0) = some v := hv
    have hnc : NodeCon node (inn.map fun r => (lkE x.regs r).getD Tn0) v := hev rfl _ hv'
    refine T_seq (T_reg rfl ?_)
    refine V_q (q_eq rfl rfl rfl) rfl rfl ?_
    refine V_q (q_asg rfl rfl) rfl rfl ?_
    refine V_next (fun _ => rfl) ?_
    refine T_cond rfl (fun hb => ?_) (fun hb => ?_)
    · simp at hb
    refine T_seq (T_reg rfl ?_)
    refine V_q (q_eq rfl rfl rfl) rfl rfl ?_
    refine V_q (q_asg rfl rfl) rfl rfl ?_
    refine V_next (fun _ => rfl) ?_
    refine T_cond rfl (fun hb => ?_) (fun hb => ?_)
    rotate_left
    · simp at hb
    refine T_seq (T_reg rfl ?_)
    refine V_q (q_asg rfl rfl) rfl rfl ?_
    refine V_next (fun _ => rfl) ?_
    refine T_ghost (fun w h => h.rowNil 28 2) ?_
    refine T_seq ?_
    refine T_seq (T_reg rfl ?_)
    refine V_q (q_fa rfl fd112_2 rfl) rfl rfl ?_
    refine V_q (q_ld rfl ty22 rfl (by repeat (first | with_reducible exact Sel.head | apply Sel.tail)) rfl) rfl rfl ?_
    refine V_q (q_len rfl Tryz.underlying22 rfl) rfl rfl ?_
    refine V_q (q_mov rfl rfl) rfl rfl ?_
    refine V_next (fun _ => rfl) ?_
    refine T_block ?_
    refine T_loop (fun z : Nat × Value × List Value => [(5, .pointer (some ⟨g5, 0, none⟩)), (7, .pointer (some ⟨y.gl, e * 5, none⟩)), (8, .pointer (some ⟨g8, 0, none⟩)), (9, z.2.1), (56, .slice a0 n0 c0), (57, .int .i64 n0), (58, .int .i64 z.1)])
      (fun z => [rOwn 28 2 z.2.1 z.1 z.2.2, rMap kI A.rr A.E, rAll ((y.As.take e ++ y.As.drop (e + 1)).map rDA), rBlk g8 28 [.slice none 0 0, .slice none 0 0], rBlk g5 112 (instC ⟨2, out, inn, node, nu, dev, tag⟩ out a0 n0 c0 a1 n1 c1 a2 n2 c2 a3 n3 c3),
        rBlk y.g 104 [.slice (some ⟨y.gl, 0, none⟩) n y.c, .pointer (some ⟨y.gb, 0, none⟩), .int .i64 m.sent], rBlk y.gl 108 (devs m.l y.As ++ y.sp), rBlk y.gb 137 [.map (some y.rb)], rMap κ3 y.rb y.EB])
      (fun z => [aEv rTn ((inn.take z.1).map fun r => (lkE x.regs r).getD Tn0) z.2.2, aSl I inn a0 n0 c0, aSl I node.inn a1 n1 c1, aSl I node.sh a2 n2 c2, aSl I node.a a3 n3 c3, aMp rTn x.regs A.E, aMp rTn m.bag y.EB, aDevs m.l y.As]) (fun z => z.1 ≤ n0) (fun z => n0 - z.1) (0, .slice none 0 0, []) (Nat.zero_le _) ⟨rfl, rfl, rfl, rfl, rfl, rfl, rfl, trivial⟩ (fun w h => (h.know (aEv rTn ((inn.take 0).map fun r => (lkE x.regs r).getD Tn0) []) (EvP.nil _ _ _)).pick (by repeat (first | with_reducible exact Pick.nil | apply Pick.cons (by repeat (first | with_reducible exact Sel.head | apply Sel.tail)))) (by simp)) ?_
    rintro ⟨k, vi, cs⟩ hkn
    replace hkn : k ≤ n0 := hkn
    refine T_seq (T_reg rfl ?_)
    refine V_q (q_lt rfl rfl rfl) rfl rfl ?_
    refine V_next (fun _ => rfl) ?_
    refine T_seq ?_
    refine T_cond rfl (fun hb => ?_) (fun hb => ?_)
    rotate_left
    · have hie : k = n0 := by
        have : ¬ (k : Int) < n0 := by simpa using hb
        omega
      subst hie
      refine T_exit_next (fun _ => rfl) ?_
      have htk : inn.take k = inn := List.take_of_length_le (by omega)
      rw [htk]
      refine T_seal rTn (e := 28) (k := 2) rfl (by decide) (xs := inn.map fun r => (lkE x.regs r).getD Tn0) (v := vi) (n := k) (cs := cs) (by repeat (first | with_reducible exact Sel.head | apply Sel.tail)) In.head fun ia ic hvi => ?_
      subst hvi
      refine T_seq (T_reg rfl ?_)
      refine V_q (q_fa rfl fd112_3 rfl) rfl rfl ?_
      refine V_q (q_ldA rfl ty35 rfl (by repeat (first | with_reducible exact Sel.head | apply Sel.tail)) (by repeat (first | exact SubL.z | apply SubL.s | apply SubL.t))) rfl rfl ?_
      refine V_q (q_mov rfl rfl) rfl rfl ?_
      refine V_l (l_call rfl ent94 rfl (hnc a1 a2 a3 ia n1 c1 n2 c2 n3 c3 k ic) (by repeat (first | with_reducible exact Pick.nil | apply Pick.cons (by repeat (first | with_reducible exact Sel.head | apply Sel.tail)))) (by repeat (first | with_reducible exact Ins.nil | refine Ins.cons (by repeat (first | with_reducible exact In.head | apply In.tail)) ?_)) (fun _ => (by repeat (first | with_reducible exact App.nil | apply App.cons))) (fun _ => (by repeat (first | with_reducible exact App.nil | apply App.cons)))) rfl rfl ?_; rintro ⟨⟨ra, rn, rc⟩, sa', sn, sc⟩ -
      refine V_q (q_mov rfl rfl) rfl rfl ?_
      refine V_q (q_ext rfl rfl rfl) rfl rfl ?_
      refine V_q (q_ext rfl rfl rfl) rfl rfl ?_
      refine V_l (l_alloc (cs := [.slice none 0 0, .slice none 0 0]) rfl tz28 rfl) rfl rfl ?_; rintro g12 -
      refine V_n (l_st rfl ty28 rfl rfl rfl rfl rfl (by repeat (first | with_reducible exact Put.head | apply Put.tail)) (by repeat (first | exact PutL.z | apply PutL.s | apply PutL.t))) rfl rfl ?_; rintro ⟨⟩ -
      refine V_q (q_asg rfl rfl) rfl rfl ?_
      refine V_next (fun _ => rfl) ?_
      refine T_seq ?_
      refine T_seq (T_reg rfl ?_)
      refine V_q (q_mov rfl rfl) rfl rfl ?_
      refine V_q (q_ne rfl rfl rfl) rfl rfl ?_
      refine V_next (fun _ => rfl) ?_
      refine T_cond rfl (fun hb => ?_) (fun hb => ?_)
      · simp at hb
      refine T_skip_next (fun _ => rfl) ?_
      refine T_reg rfl ?_
      refine V_q (q_ldA rfl ty28 rfl (by repeat (first | with_reducible exact Sel.head | apply Sel.tail)) (by repeat (first | exact SubL.z | apply SubL.s | apply SubL.t))) rfl rfl ?_
      refine V_n (l_st rfl ty28 rfl rfl rfl rfl rfl (by repeat (first | with_reducible exact Put.head | apply Put.tail)) (by repeat (first | exact PutL.z | apply PutL.s | apply PutL.t))) rfl rfl ?_; rintro ⟨⟩ -
      refine V_next (fun _ => rfl) ?_
      refine T_seq (T_drawn hmix (.pure 0 <| .pure 1 <| .pure 2 <| .quiet 3 <| .pure 4 <| .quiet 5 <| .quiet 6 <| .bar 7 <| .fin) (by decide +kernel) ?_)
      refine W_p rfl (q_mov rfl rfl) rfl rfl ?_
      refine W_p rfl (q_nil rfl rfl) rfl rfl ?_
      refine W_p rfl (q_faR rfl fd108_2 rfl) rfl rfl ?_
      refine W_ld rfl rfl ty106 rfl (by repeat (first | with_reducible exact Sel.head | apply Sel.tail)) (nd2_ hx hA) rfl rfl ?_
      refine W_p rfl (q_fa rfl fd112_1 rfl) rfl rfl ?_
      refine W_ld rfl rfl ty3 rfl (by repeat (first | with_reducible exact Sel.head | apply Sel.tail)) rfl rfl rfl ?_
      refine W_ldA rfl rfl ty28 rfl (by repeat (first | with_reducible exact Sel.head | apply Sel.tail)) (by repeat (first | exact SubL.z | apply SubL.s | apply SubL.t)) rfl rfl ?_
      refine W_bn rfl (l_mapupd out rfl Tryz.underlying106 ktI rfl rfl rfl (by repeat (first | with_reducible exact Put.head | apply Put.tail))) rfl rfl ?_; rintro ⟨⟩ -
      refine W_next (fun _ => rfl) ?_
      refine T_seq (T_reg rfl ?_)
      refine V_q (q_asg rfl rfl) rfl rfl ?_
      refine V_next (fun _ => rfl) ?_
      refine T_ret fun w h => ?_
      have h1 := h.mapBack (As := y.As) (d := e) (A := A) hAl (by repeat (first | with_reducible exact Pick.nil | apply Pick.cons (by repeat (first | with_reducible exact Sel.head | apply Sel.tail))))
      have hd' : devs (m.l.set e { x with regs := putE x.regs out v }) (y.As.set e { A with E := putE A.E out (.agg #[.slice ra rn rc, .slice sa' sn sc]) }) = devs m.l y.As := devs_upd hx hA rfl
      have q : DevsP _ w m.l y.As := h1.atom (A := aDevs m.l y.As) (by repeat (first | with_reducible exact In.head | apply In.tail))
      have h2 := h1.know (aDevs (m.l.set e { x with regs := putE x.regs out v }) (y.As.set e { A with E := putE A.E out (.agg #[.slice ra rn rc, .slice sa' sn sc]) }))
        (q.set e (x := { x with regs := putE x.regs out v }) (A := { A with E := putE A.E out (.agg #[.slice ra rn rc, .slice sa' sn sc]) }) (q.2 e x A hx hA).1 (q.2 e x A hx hA).2.1 ((q.2 e x A hx hA).2.2.put out (cs := [.slice ra rn rc, .slice sa' sn sc]) ⟨_, _, _, _, _, _, rfl, h1.atom (A := aSl I v.sh ra rn rc) (by repeat (first | with_reducible exact In.head | apply In.tail)), h1.atom (A := aSl I v.da sa' sn sc) (by repeat (first | with_reducible exact In.head | apply In.tail))⟩))
      have hm : doR m e ⟨2, out, inn, node, nu, dev, tag⟩ v = ⟨m.l.set e { x with regs := putE x.regs out v }, m.bag, m.sent⟩ := by unfold doR; rw [if_neg (by show ¬ ((2 : Int) = 3); decide), hdev]; rfl
      rw [hm]
      refine ⟨_, res_1 rfl, (y.As.set e { A with E := putE A.E out (.agg #[.slice ra rn rc, .slice sa' sn sc]) }, y.EB), hd', rfl, h2.pick (by repeat (first | with_reducible exact Pick.nil | apply Pick.cons (by repeat (first | with_reducible exact Sel.head | apply Sel.tail)))) (by simp)⟩
    have hin : k < n0 := by
      have : (k : Int) < n0 := by simpa using hb
      omega
    clear hb
    refine T_skip_next (fun _ => rfl) ?_
    refine T_seq ?_
    refine T_block ?_
    refine T_seq (T_reg rfl ?_)
    refine V_q (q_iaN rfl Tryz.underlying22 ty3 rfl rfl (by omega) (by repeat (first | with_reducible exact In.head | apply In.tail))) rfl rfl ?_
    refine V_q (q_ldN rfl ty3 rfl (by repeat (first | with_reducible exact In.head | apply In.tail)) (by omega)) rfl rfl ?_
    refine V_q (q_asg rfl rfl) rfl rfl ?_
    refine V_next (fun _ => rfl) ?_
    rw [getD_get (by omega)]
    refine T_lkI inn[k] (B := x.regs) (E := A.E) (by repeat (first | with_reducible exact In.head | apply In.tail)) fun ra rn rc sa' sn sc e1 e2 => ?_
    refine T_reg rfl ?_
    refine V_q (q_mov rfl rfl) rfl rfl ?_
    refine V_q (q_mov rfl rfl) rfl rfl ?_
    refine V_q (q_nil rfl rfl) rfl rfl ?_
    refine V_q (q_fa rfl fd108_2 rfl) rfl rfl ?_
    refine V_q (q_ld rfl ty106 rfl (by repeat (first | with_reducible exact Sel.head | apply Sel.tail)) (nd2_ hx hA)) rfl rfl ?_
    refine V_q (q_mov rfl rfl) rfl rfl ?_
    refine V_q (q_lookup1E inn[k] rfl Tryz.underlying106 ktI tz28 rfl rfl (by repeat (first | with_reducible exact Sel.head | apply Sel.tail)) e1) rfl rfl ?_
    refine V_l (l_bs [.slice none 0 0, .slice none 0 0] rfl Tryz.underlying77 ty28 tz28 (by decide) rfl rfl rfl (by repeat (first | exact FillL.nil | apply FillL.cons rfl rfl (by repeat (first | exact PutL.z | apply PutL.s | apply PutL.t))))) rfl rfl ?_; rintro g69 -
    refine V_l (l_appBs rfl Tryz.underlying77 ty28 tz28 tb28 rfl (by decide) rfl rfl (by repeat (first | with_reducible exact Sel.head | apply Sel.tail)) (fun _ => (by repeat (first | with_reducible exact Put.head | apply Put.tail))) rfl rfl (by simp [maxLen]; omega) (by first | omega | (simp; omega))) rfl rfl ?_; rintro ⟨ia, ic⟩ -
    refine V_q (q_asg rfl rfl) rfl rfl ?_
    refine V_next (fun _ => rfl) ?_
    refine T_reg rfl ?_
    refine V_q (q_addI rfl rfl rfl (by omega)) rfl rfl ?_
    refine V_q (q_mov rfl rfl) rfl rfl ?_
    refine V_nil ?_
    intro w h
    have het : (inn.take (k + 1)).map (fun r => (lkE x.regs r).getD Tn0) = (inn.take k).map (fun r => (lkE x.regs r).getD Tn0) ++ [(lkE x.regs inn[k]).getD Tn0] := by rw [List.take_succ_eq_append_getElem (by omega), List.map_append, List.map_singleton]
    have h2 := h.know (aEv rTn ((inn.take (k + 1)).map fun r => (lkE x.regs r).getD Tn0) (cs ++ [.slice ra rn rc, .slice sa' sn sc])) (show EvP rTn _ _ _ _ from by
      rw [het]
      exact EvP.snoc (show EvP rTn _ _ _ _ from h.atom (A := aEv rTn ((inn.take k).map fun r => (lkE x.regs r).getD Tn0) cs) (by repeat (first | with_reducible exact In.head | apply In.tail))) ⟨ra, rn, rc, sa', sn, sc, rfl, h.atom (A := aSl I ((lkE x.regs inn[k]).getD Tn0).sh ra rn rc) (by repeat (first | with_reducible exact In.head | apply In.tail)), h.atom (A := aSl I ((lkE x.regs inn[k]).getD Tn0).da sa' sn sc) (by repeat (first | with_reducible exact In.head | apply In.tail))⟩)
    exact ⟨(k + 1, .slice ia (k + 1) ic, cs ++ [.slice ra rn rc, .slice sa' sn sc]), ⟨by show n0 - (k + 1) < n0 - k; omega, by show k + 1 ≤ n0; omega⟩, ⟨rfl, rfl, rfl, rfl, rfl, rfl, rfl, trivial⟩, h2.pick (by repeat (first | with_reducible exact Pick.nil | apply Pick.cons (by repeat (first | with_reducible exact Sel.head | apply Sel.tail)))) (by simp)⟩
  · have hin1 : inn.length = 1 := hi1 rfl
    obtain ⟨r, rfl⟩ : ∃ r, inn = [r] := by
      match inn, hin1 with
      | [r], _ => exact ⟨r, rfl⟩
    have hn1 : n0 = 1 := by simpa using hn0
    subst hn1
    unfold valM at hv
    rw [if_neg (by show ¬ ((3 : Int) = 1); decide), if_neg (by show ¬ ((3 : Int) = 2); decide), if_pos rfl, hdev] at hv
    have hv' : lkE x.regs r = some v := hv
    refine T_lkI r (B := x.regs) (E := A.E) (by repeat (first | with_reducible exact In.head | apply In.tail)) fun ra rn rc sa' sn sc e1 e2 => ?_
    rw [hv', Option.getD_some]
    refine T_pure (φ := rn * 8 ≤ 140737488355328 ∧ sn * 8 ≤ 140737488355328) (fun w h => ?_) (fun hx2 => ?_)
    · have l0 := (sl_len h (xs := v.sh) (a := ra) (n := rn) (c := rc) (by repeat (first | with_reducible exact In.head | apply In.tail))).1
      have l1 := (sl_len h (xs := v.da) (a := sa') (n := sn) (c := sc) (by repeat (first | with_reducible exact In.head | apply In.tail))).1
      obtain ⟨h1, h2⟩ := hsm
      omega
    have hnone : lkE m.bag ((e : Int), dev, tag) = none := hb3 rfl
    have cp := c_Put y.gb y.rb m.bag y.EB e dev tag v.sh v.da ra sa' rn rc sn sc hx2.1 hx2.2
    rw [hnone] at cp
    simp only [Option.isSome_none, Bool.not_false] at cp
    refine T_seq (T_reg rfl ?_)
    refine V_q (q_eq rfl rfl rfl) rfl rfl ?_
    refine V_q (q_asg rfl rfl) rfl rfl ?_
    refine V_next (fun _ => rfl) ?_
    refine T_cond rfl (fun hb => ?_) (fun hb => ?_)
    · simp at hb
    refine T_seq (T_reg rfl ?_)
    refine V_q (q_eq rfl rfl rfl) rfl rfl ?_
    refine V_q (q_asg rfl rfl) rfl rfl ?_
    refine V_next (fun _ => rfl) ?_
    refine T_cond rfl (fun hb => ?_) (fun hb => ?_)
    · simp at hb
    refine T_seq (T_reg rfl ?_)
    refine V_q (q_eq rfl rfl rfl) rfl rfl ?_
    refine V_q (q_asg rfl rfl) rfl rfl ?_
    refine V_next (fun _ => rfl) ?_
    refine T_cond rfl (fun hb => ?_) (fun hb => ?_)
    rotate_left
    · simp at hb
    refine T_seq ?_
    refine T_seq (T_drawn hmix (.pure 0 <| .pure 1 <| .pure 2 <| .quiet 3 <| .pure 4 <| .pure 5 <| .quiet 6 <| .pure 7 <| .quiet 8 <| .pure 9 <| .pure 10 <| .pure 11 <| .quiet 12 <| .pure 13 <| .quiet 14 <| .quiet 15 <| .quiet 16 <| .quiet 17 <| .pure 18 <| .loud 19 <| .pure 20 <| .fin) (by decide +kernel) ?_)
    refine W_p rfl (q_mov rfl rfl) rfl rfl ?_
    refine W_p rfl (q_nil rfl rfl) rfl rfl ?_
    refine W_p rfl (q_fa rfl fd104_1 rfl) rfl rfl ?_
    refine W_ld rfl rfl ty100 rfl (by repeat (first | with_reducible exact Sel.head | apply Sel.tail)) rfl rfl rfl ?_
    refine W_p rfl (q_mov rfl rfl) rfl rfl ?_
    refine W_p rfl (q_fa rfl fd112_5 rfl) rfl rfl ?_
    refine W_ld rfl rfl ty3 rfl (by repeat (first | with_reducible exact Sel.head | apply Sel.tail)) rfl rfl rfl ?_
    refine W_p rfl (q_fa rfl fd112_6 rfl) rfl rfl ?_
    refine W_ld rfl rfl ty3 rfl (by repeat (first | with_reducible exact Sel.head | apply Sel.tail)) rfl rfl rfl ?_
    refine W_p rfl (q_mov rfl rfl) rfl rfl ?_
    refine W_p rfl (q_nil rfl rfl) rfl rfl ?_
    refine W_p rfl (q_faR rfl fd108_2 rfl) rfl rfl ?_
    refine W_ld rfl rfl ty106 rfl (by repeat (first | with_reducible exact Sel.head | apply Sel.tail)) (nd2_ hx hA) rfl rfl ?_
    refine W_p rfl (q_fa rfl fd112_2 rfl) rfl rfl ?_
    refine W_ld rfl rfl ty22 rfl (by repeat (first | with_reducible exact Sel.head | apply Sel.tail)) rfl rfl rfl ?_
    refine W_a rfl (q_iaN rfl Tryz.underlying22 ty3 rfl rfl (i := 0) (by omega) (xs := [r]) (by repeat (first | with_reducible exact In.head | apply In.tail))) rfl rfl ?_
    refine W_a rfl (q_ldN rfl ty3 rfl (xs := [r]) (by repeat (first | with_reducible exact In.head | apply In.tail)) (by omega)) rfl rfl ?_
    refine W_sel rfl (by repeat (first | with_reducible exact Sel.head | apply Sel.tail)) (q_lookup1E r rfl Tryz.underlying106 ktI tz28 rfl rfl Sel.head e1) rfl rfl ?_
    refine W_p rfl (q_buildS rfl pl131 tz131 rfl rfl (by repeat (first | exact FillL.nil | apply FillL.cons rfl rfl (by repeat (first | exact PutL.z | apply PutL.s | apply PutL.t))))) rfl rfl ?_
    refine W_l rfl (l_call rfl ent95 rfl (cp) (by repeat (first | with_reducible exact Pick.nil | apply Pick.cons (by repeat (first | with_reducible exact Sel.head | apply Sel.tail)))) (by repeat (first | with_reducible exact Ins.nil | refine Ins.cons (by repeat (first | with_reducible exact In.head | apply In.tail)) ?_)) (fun _ => (by repeat (first | with_reducible exact App.nil | apply App.cons))) (fun _ => (by repeat (first | with_reducible exact App.nil | apply App.cons)))) (fun _ _ h => by repeat (first | exact trivial | refine ⟨?_, h.weak (by repeat (first | exact List.Sublist.refl _ | exact List.nil_sublist _ | with_reducible apply List.Sublist.cons_cons | apply List.Sublist.cons)) (by simp +contextual)⟩)) rfl rfl ?_; rintro EB' -
    refine W_p rfl (q_not rfl rfl) rfl rfl ?_
    refine W_next (fun _ => rfl) ?_
    refine T_cond rfl (fun hb => ?_) (fun hb => ?_)
    · cases hb
    refine T_skip_next (fun _ => rfl) ?_
    refine T_seq (T_reg rfl ?_)
    refine V_q (q_mov rfl rfl) rfl rfl ?_
    refine V_q (q_nil rfl rfl) rfl rfl ?_
    refine V_q (q_fa rfl fd104_2 rfl) rfl rfl ?_
    refine V_q (q_ld rfl ty3 rfl (by repeat (first | with_reducible exact Sel.head | apply Sel.tail)) rfl) rfl rfl ?_
    refine V_q (q_addE ((m.sent + 1 : Nat) : Int) rfl rfl rfl (by omega) (by omega)) rfl rfl ?_
    refine V_q (q_nil rfl rfl) rfl rfl ?_
    refine V_q (q_fa rfl fd104_2 rfl) rfl rfl ?_
    refine V_n (l_st rfl ty3 rfl rfl rfl rfl rfl (by repeat (first | with_reducible exact Put.head | apply Put.tail)) (by repeat (first | exact PutL.z | apply PutL.s | apply PutL.t))) rfl rfl ?_; rintro ⟨⟩ -
    refine V_next (fun _ => rfl) ?_
    refine T_seq (T_reg rfl ?_)
    refine V_q (q_asg rfl rfl) rfl rfl ?_
    refine V_next (fun _ => rfl) ?_
    refine T_ret fun w h => ?_
    have h1 := h.mapSame (As := y.As) hA (by repeat (first | with_reducible exact Pick.nil | apply Pick.cons (by repeat (first | with_reducible exact Sel.head | apply Sel.tail))))
    have hm : doR m e ⟨3, out, [r], node, nu, dev, tag⟩ v = ⟨m.l, bput m.bag ((e : Int), dev, tag) v, m.sent + 1⟩ := by
      unfold doR bput; rw [if_pos rfl, hnone]; rfl
    rw [hm]
    exact ⟨_, res_1 rfl, (y.As, EB'), rfl, rfl, h1.pick (by repeat (first | with_reducible exact Pick.nil | apply Pick.cons (by repeat (first | with_reducible exact Sel.head | apply Sel.tail)))) (by simp)⟩
  · unfold valM at hv
    rw [if_neg (by show ¬ ((4 : Int) = 1); decide), if_neg (by show ¬ ((4 : Int) = 2); decide), if_neg (by show ¬ ((4 : Int) = 3); decide)] at hv
    have hv' : lkE m.bag (dev, (e : Int), tag) = some v := hv
    have ct := c_Take y.gb y.rb m.bag y.EB dev e tag
    rw [hv'] at ct
    simp only [Option.isSome_some, Option.getD_some] at ct
    refine T_seq (T_reg rfl ?_)
    refine V_q (q_eq rfl rfl rfl) rfl rfl ?_
    refine V_q (q_asg rfl rfl) rfl rfl ?_
    refine V_next (fun _ => rfl) ?_
    refine T_cond rfl (fun hb => ?_) (fun hb => ?_)
    · simp at hb
    refine T_seq (T_reg rfl ?_)
    refine V_q (q_eq rfl rfl rfl) rfl rfl ?_
    refine V_q (q_asg rfl rfl) rfl rfl ?_
    refine V_next (fun _ => rfl) ?_
    refine T_cond rfl (fun hb => ?_) (fun hb => ?_)
    · simp at hb
    refine T_seq (T_reg rfl ?_)
    refine V_q (q_eq rfl rfl rfl) rfl rfl ?_
    refine V_q (q_asg rfl rfl) rfl rfl ?_
    refine V_next (fun _ => rfl) ?_
    refine T_cond rfl (fun hb => ?_) (fun hb => ?_)
    · simp at hb
    refine T_drawn hmix (.pure 0 <| .pure 1 <| .pure 2 <| .quiet 3 <| .pure 4 <| .quiet 5 <| .pure 6 <| .pure 7 <| .quiet 8 <| .bar 9 <| .pure 10 <| .pure 11 <| .pure 12 <| .bar 13 <| .fin) (by decide +kernel) ?_
    refine W_p rfl (q_mov rfl rfl) rfl rfl ?_
    refine W_p rfl (q_nil rfl rfl) rfl rfl ?_
    refine W_p rfl (q_fa rfl fd104_1 rfl) rfl rfl ?_
    refine W_ld rfl rfl ty100 rfl (by repeat (first | with_reducible exact Sel.head | apply Sel.tail)) rfl rfl rfl ?_
    refine W_p rfl (q_fa rfl fd112_5 rfl) rfl rfl ?_
    refine W_ld rfl rfl ty3 rfl (by repeat (first | with_reducible exact Sel.head | apply Sel.tail)) rfl rfl rfl ?_
    refine W_p rfl (q_mov rfl rfl) rfl rfl ?_
    refine W_p rfl (q_fa rfl fd112_6 rfl) rfl rfl ?_
    refine W_ld rfl rfl ty3 rfl (by repeat (first | with_reducible exact Sel.head | apply Sel.tail)) rfl rfl rfl ?_
    refine W_b rfl (l_call rfl ent96 rfl (ct) (by repeat (first | with_reducible exact Pick.nil | apply Pick.cons (by repeat (first | with_reducible exact Sel.head | apply Sel.tail)))) (by repeat (first | with_reducible exact Ins.nil | refine Ins.cons (by repeat (first | with_reducible exact In.head | apply In.tail)) ?_)) (fun _ => (by repeat (first | with_reducible exact App.nil | apply App.cons))) (fun _ => (by repeat (first | with_reducible exact App.nil | apply App.cons)))) rfl rfl ?_; rintro ⟨⟨ra, rn, rc⟩, sa', sn, sc⟩ -
    refine W_p rfl (q_mov rfl rfl) rfl rfl ?_
    refine W_p rfl (q_ext rfl rfl rfl) rfl rfl ?_
    refine W_p rfl (q_ext rfl rfl rfl) rfl rfl ?_
    refine W_bn rfl (l_st rfl ty28 rfl rfl rfl rfl rfl (by repeat (first | with_reducible exact Put.head | apply Put.tail)) (by repeat (first | exact PutL.z | apply PutL.s | apply PutL.t))) rfl rfl ?_; rintro ⟨⟩ -
    refine W_next (fun _ => rfl) ?_
    refine T_seq (T_drawn hmix (.pure 0 <| .pure 1 <| .pure 2 <| .quiet 3 <| .pure 4 <| .quiet 5 <| .quiet 6 <| .bar 7 <| .fin) (by decide +kernel) ?_)
    refine W_p rfl (q_mov rfl rfl) rfl rfl ?_
    refine W_p rfl (q_nil rfl rfl) rfl rfl ?_
    refine W_p rfl (q_faR rfl fd108_2 rfl) rfl rfl ?_
    refine W_ld rfl rfl ty106 rfl (by repeat (first | with_reducible exact Sel.head | apply Sel.tail)) (nd2_ hx hA) rfl rfl ?_
    refine W_p rfl (q_fa rfl fd112_1 rfl) rfl rfl ?_
    refine W_ld rfl rfl ty3 rfl (by repeat (first | with_reducible exact Sel.head | apply Sel.tail)) rfl rfl rfl ?_
    refine W_ldA rfl rfl ty28 rfl (by repeat (first | with_reducible exact Sel.head | apply Sel.tail)) (by repeat (first | exact SubL.z | apply SubL.s | apply SubL.t)) rfl rfl ?_
    refine W_bn rfl (l_mapupd out rfl Tryz.underlying106 ktI rfl rfl rfl (by repeat (first | with_reducible exact Put.head | apply Put.tail))) rfl rfl ?_; rintro ⟨⟩ -
    refine W_next (fun _ => rfl) ?_
    refine T_seq (T_reg rfl ?_)
    refine V_q (q_asg rfl rfl) rfl rfl ?_
    refine V_next (fun _ => rfl) ?_
    refine T_ret fun w h => ?_
    have h1 := h.mapBack (As := y.As) (d := e) (A := A) hAl (by repeat (first | with_reducible exact Pick.nil | apply Pick.cons (by repeat (first | with_reducible exact Sel.head | apply Sel.tail))))
    have hd' : devs (m.l.set e { x with regs := putE x.regs out v }) (y.As.set e { A with E := putE A.E out (.agg #[.slice ra rn rc, .slice sa' sn sc]) }) = devs m.l y.As := devs_upd hx hA rfl
    have q : DevsP _ w m.l y.As := h1.atom (A := aDevs m.l y.As) (by repeat (first | with_reducible exact In.head | apply In.tail))
    have h2 := h1.know (aDevs (m.l.set e { x with regs := putE x.regs out v }) (y.As.set e { A with E := putE A.E out (.agg #[.slice ra rn rc, .slice sa' sn sc]) }))
      (q.set e (x := { x with regs := putE x.regs out v }) (A := { A with E := putE A.E out (.agg #[.slice ra rn rc, .slice sa' sn sc]) }) (q.2 e x A hx hA).1 (q.2 e x A hx hA).2.1 ((q.2 e x A hx hA).2.2.put out (cs := [.slice ra rn rc, .slice sa' sn sc]) ⟨_, _, _, _, _, _, rfl, h1.atom (A := aSl I v.sh ra rn rc) (by repeat (first | with_reducible exact In.head | apply In.tail)), h1.atom (A := aSl I v.da sa' sn sc) (by repeat (first | with_reducible exact In.head | apply In.tail))⟩))
    have hm : doR m e ⟨4, out, inn, node, nu, dev, tag⟩ v = ⟨m.l.set e { x with regs := putE x.regs out v }, delE m.bag (dev, (e : Int), tag), m.sent⟩ := by unfold doR; rw [if_neg (by show ¬ ((4 : Int) = 3); decide), hdev]; rfl
    rw [hm]
    refine ⟨_, res_1 rfl, (y.As.set e { A with E := putE A.E out (.agg #[.slice ra rn rc, .slice sa' sn sc]) }, delE y.EB (dev, (e : Int), tag)), hd', rfl, h2.pick (by repeat (first | with_reducible exact Pick.nil | apply Pick.cons (by repeat (first | with_reducible exact Sel.head | apply Sel.tail)))) (by simp)⟩
end Go.Proofs.YtgbhegmhbeekpaaGreat
