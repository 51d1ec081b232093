/-
  All of a bag, in order.
-/
import Derived.Test.YtgbhegmhbeekpaaGreatB8
import Derived.Test.YtgbhegmhbeekpaaGreatLay
namespace Go.Proofs.YtgbhegmhbeekpaaGreat
open Go
set_option maxRecDepth 100000

def SmT (t : Tn) : Prop := t.sh.length ≤ 1000000 ∧ t.da.length ≤ 1000000

theorem Al.mov {M M' : List Nat} {w w' : World} {xs : List Msg} {d : List Cell5} (h : Al M w xs d) (k : Kept M w w') (hM : ∀ b ∈ M', b ∈ M ∨ w.heap.size ≤ b) : Al M' w' xs d := by
  induction h with
  | nil => exact .nil
  | cons h _ ih => exact .cons (rMsg.mov h k hM) ih
def aAl (xs : List Msg) (d : List Cell5) : Atom := ⟨fun M w => Al M w xs d, Al.mov⟩

theorem lkE_of_mem : ∀ {B : List (Key3 × Tn)}, (B.map (·.1)).Nodup → ∀ {p : Key3 × Tn}, p ∈ B → lkE B p.1 = some p.2
  | [], _, p, h => by cases h
  | q :: B, hn, p, h => by
    simp only [List.map_cons, List.nodup_cons] at hn
    obtain ⟨k, x⟩ := q
    rw [lkE_cons]
    rcases List.mem_cons.1 h with rfl | h
    · rw [if_pos rfl]
    · have : ¬ k = p.1 := fun e => hn.1 (List.mem_map.2 ⟨p, h, e.symm⟩)
      rw [if_neg this]
      exact lkE_of_mem hn.2 h

def fB (B : List (Key3 × Tn)) (p : Key3 × Value) : Msg := toMsg (p.1, (lkE B p.1).getD Tn0)

theorem map_fB {B : List (Key3 × Tn)} {E : List (Key3 × Value)} (hk : B.map (·.1) = E.map (·.1)) (hn : (B.map (·.1)).Nodup) : E.map (fB B) = B.map toMsg := by
  have e1 : E.map (fB B) = (E.map (·.1)).map fun k => toMsg (k, (lkE B k).getD Tn0) := by rw [List.map_map]; rfl
  rw [e1, ← hk, List.map_map]
  apply List.map_congr_left
  intro p hp
  simp only [Function.comp_apply]
  rw [lkE_of_mem hn hp]
  rfl

section
variable {P : Program} {nn : Nat} {l : LEnv} {C : Ctx} {own : List Res} {ats : List Atom} {Q : Exit → LEnv → World → Prop}
theorem T_mem {cd : Code} {B : List (Key3 × Tn)} {E : List (Key3 × Value)} {p : Key3 × Value} (hs : In (aMp rTn B E) ats) (hp : p ∈ E)
    (h : ∀ x pa pn pc qa qn qc, (p.1, x) ∈ B → p.2 = .agg #[.slice pa pn pc, .slice qa qn qc] → pn = x.sh.length → qn = x.da.length → T P nn cd l C own (aSl I x.sh pa pn pc :: aSl I x.da qa qn qc :: ats) Q) : T P nn cd l C own ats Q := by
  intro w hw
  have h0 : Mp rTn _ w B E := hw.atom hs
  obtain ⟨x, cs, h1, h2, pa, pn, pc, qa, qn, qc, h3, h4, h5⟩ := h0.mem hp
  subst h3
  exact h x pa pn pc qa qn qc h1 h2 h4.1 h5.1 w ((hw.know (aSl I x.da qa qn qc) h5).know (aSl I x.sh pa pn pc) h4)
theorem T_al {cd : Code} {xs : List Msg} {cs : List Value} (hs : In (aEv rMsg xs cs) ats) (h : ∀ d, cs = fl enc5 5 d → xs.length = d.length → T P nn cd l C own (aAl xs d :: ats) Q) : T P nn cd l C own ats Q := by
  intro w hw
  obtain ⟨d, h1, h2⟩ := ev_al (show EvP rMsg _ w xs cs from hw.atom hs)
  exact h d h1 h2.len w (hw.know (aAl xs d) h2)
end

theorem c_All (g r : Nat) (B : List (Key3 × Tn)) (E : List (Key3 × Value)) (hs : ∀ p ∈ B, SmT p.2) (hn : B.length ≤ 1000000) : Con Tryz.prog 67 #[.pointer (some ⟨g, 0, none⟩)] [rBlk g 137 [.map (some r)], rMap κ3 r E] [aMp rTn B E]
    (fun _ : Option Addr × Nat => True) (fun y => .slice y.1 B.length y.2) (fun _ => [rBlk g 137 [.map (some r)], rMap κ3 r E]) (fun y => [aSl rMsg (sorted (B.map toMsg)) y.1 B.length y.2]) := by
  refine con_of (n := 31) Tryz.func67 rfl rfl rfl (by simp) ?_
  intro C hC
  refine T_pure (φ := B.map (·.1) = E.map (·.1) ∧ (E.map (·.1)).Nodup) (fun w h => ⟨(show Mp rTn _ w B E from h.atom (by repeat (first | with_reducible exact In.head | apply In.tail))).keys, ?_⟩) (fun hlen => ?_)
  · obtain ⟨tr, clock, h1⟩ := (show (rMap κ3 r E).p w from h.res (by repeat (first | with_reducible exact Sel.head | apply Sel.tail)))
    exact h1.keys
  obtain ⟨hk, hnd⟩ := hlen
  have hBE : B.length = E.length := by simpa using congrArg List.length hk
  have hEn : E.Nodup := (List.pairwise_map.1 hnd).imp fun h e => h (congrArg _ e)
  refine T_seq (T_reg rfl ?_)
  refine V_q (q_asg rfl rfl) rfl rfl ?_
  refine V_next (fun _ => rfl) ?_
  refine T_seq (T_reg rfl ?_)
  refine V_q (q_asg rfl rfl) rfl rfl ?_
  refine V_next (fun _ => rfl) ?_
  refine T_ghost (fun w h => h.rowNil 131 5) ?_
  refine T_seq ?_
  refine T_seq (T_reg rfl ?_)
  refine V_q (q_mov rfl rfl) rfl rfl ?_
  refine V_q (q_nil rfl rfl) rfl rfl ?_
  refine V_q (q_fa rfl fd137_0 rfl) rfl rfl ?_
  refine V_q (q_ld rfl ty135 rfl (by repeat (first | with_reducible exact Sel.head | apply Sel.tail)) rfl) rfl rfl ?_
  refine V_l (l_range κ3 rfl Tryz.underlying135 rfl (fun _ => (by repeat (first | with_reducible exact Put.head | apply Put.tail)))) rfl rfl ?_; rintro it -
  refine V_next (fun _ => rfl) ?_
  refine T_block ?_
  refine T_loop (fun y : List (Key3 × Value) × Nat × Value × List Value => [(3, y.2.2.1), (10, .pointer (some ⟨it, 0, none⟩))]) (fun y => [rOwn 131 5 y.2.2.1 y.2.1 y.2.2.2, rBlk g 137 [.map (some r)], rRng κ3 it r E y.1]) (fun y => [aEv rMsg (y.1.map (fB B)) y.2.2.2, aMp rTn B E])
    (fun y => y.1.Nodup ∧ (∀ p ∈ y.1, p ∈ E) ∧ y.2.1 = y.1.length) (fun y => E.length - y.1.length) ([], 0, .slice none 0 0, []) ⟨List.nodup_nil, by simp, rfl⟩ ⟨rfl, rfl, trivial⟩ (fun w h => h.know (aEv rMsg [] []) (EvP.nil _ _ _)) ?_
  rintro ⟨done, n, v, cs⟩ ⟨hd1, hd2, hd3⟩
  replace hd1 : done.Nodup := hd1
  replace hd2 : ∀ p ∈ done, p ∈ E := hd2
  replace hd3 : n = done.length := hd3
  have hle : done.length ≤ E.length := hd1.length_le_of_subset hd2
  refine T_seq (T_reg rfl ?_)
  refine V_l (l_next rfl rfl (fun _ => (by repeat (first | with_reducible exact Put.head | apply Put.tail)))) rfl rfl ?_; rintro y hy
  rcases y with _ | ⟨k, pv⟩
  · refine V_q (q_ext rfl rfl rfl) rfl rfl ?_
    refine V_next (fun _ => rfl) ?_
    refine T_seq ?_
    refine T_cond rfl (fun hb => ?_) (fun hb => ?_)
    · cases hb
    have hperm : done.Perm E := (List.perm_ext_iff_of_nodup hd1 hEn).2 fun p => ⟨hd2 p, hy p⟩
    have hB : (done.map (fB B)).Perm (B.map toMsg) := by rw [← map_fB hk (hk ▸ hnd)]; exact hperm.map _
    refine T_exit_next (fun _ => rfl) ?_
    refine T_al (xs := done.map (fB B)) (cs := cs) (by repeat (first | with_reducible exact In.head | apply In.tail)) fun d hcs hdl => ?_
    subst hcs
    have hdn : d.length = n := by rw [← hdl, hd3]; simp
    subst hdn
    refine T_seq (T_reg rfl ?_)
    refine V_q (q_mov rfl rfl) rfl rfl ?_
    refine V_l (l_sort Tryz.sortMsg ty131 enc5 enc5_len enc5_one (fun x y : Cell5 => cmp3 x.1 y.1) swo5 (fun x y => c_All1 x.1 y.1 x.2.1.1 x.2.2.1 y.2.1.1 y.2.2.1 x.2.1.2.1 x.2.1.2.2 x.2.2.2.1 x.2.2.2.2 y.2.1.2.1 y.2.1.2.2 y.2.2.2.1 y.2.2.2.2) rfl ent97 ent98 (d := d) (by omega) rfl rfl (fun _ => (by repeat (first | with_reducible exact Put.head | apply Put.tail)))) rfl rfl ?_; rintro d' ⟨hp, hsrt⟩
    refine V_next (fun _ => rfl) ?_
    refine T_seq (T_reg rfl ?_)
    refine V_q (q_mov rfl rfl) rfl rfl ?_
    refine V_q (q_asg rfl rfl) rfl rfl ?_
    refine V_next (fun _ => rfl) ?_
    refine T_ret fun w h => ?_
    obtain ⟨xs', hx1, hx2⟩ := (show Al _ w (done.map (fB B)) d from h.atom (A := aAl (done.map (fB B)) d) (by repeat (first | with_reducible exact In.head | apply In.tail))).perm hp.symm
    have hkeys := hx2.keys
    have hpw : xs'.Pairwise leM := by
      have h1 : (d'.map (·.1)).Pairwise (fun a b => ¬ lt3 b a) := by
        rw [List.pairwise_map]
        exact hsrt.imp fun h hc => by unfold ltOf at h; rw [decide_eq_true ((cmp3_neg _ _).2 hc)] at h; cases h
      rw [← hkeys, List.pairwise_map] at h1
      exact h1
    have hxs : xs' = sorted (B.map toMsg) := sorted_uniq (hx1.trans hB) hpw (by rw [List.map_map]; exact hk ▸ hnd)
    subst hxs
    obtain ⟨a', c', hv, h2⟩ := (h.know (aEv rMsg (sorted (B.map toMsg)) (fl enc5 5 d')) hx2.ev).leave (k := 5) (v := v) (n := d.length) (cs := fl enc5 5 d') rMsg rfl (by decide) (by repeat (first | with_reducible exact Sel.head | apply Sel.tail)) In.head
    subst hv
    have e : d.length = B.length := by rw [hd3, hBE]; exact hperm.length_eq
    rw [e] at h2
    exact ⟨_, res_1 rfl, (a', c'), trivial, by rw [e], (h2.rngEnd (by repeat (first | with_reducible exact Put.head | apply Put.tail))).weak (by repeat (first | exact List.Sublist.refl _ | exact List.nil_sublist _ | with_reducible apply List.Sublist.cons_cons | apply List.Sublist.cons)) (by simp)⟩
  · refine V_q (q_ext rfl rfl rfl) rfl rfl ?_
    refine V_next (fun _ => rfl) ?_
    refine T_seq ?_
    refine T_cond rfl (fun hb => ?_) (fun hb => ?_)
    rotate_left
    · cases hb
    refine T_skip_next (fun _ => rfl) ?_
    refine T_block ?_
    have hnd' : (done ++ [(k, pv)]).Nodup := by
      rw [List.nodup_append]
      refine ⟨hd1, by simp, fun a ha b hb e => hy.2 ?_⟩
      have : b = (k, pv) := by simpa using hb
      rw [← this, ← e]
      exact ha
    have hsub' : ∀ p ∈ done ++ [(k, pv)], p ∈ E := fun p hp => by
      rcases List.mem_append.1 hp with hp | hp
      · exact hd2 p hp
      · have : p = (k, pv) := by simpa using hp
        rw [this]; exact hy.1
    have hlt : done.length < E.length := by
      have h2 := hnd'.length_le_of_subset (l₂ := E) hsub'
      simp at h2; omega
    refine T_mem (p := (k, pv)) (by repeat (first | with_reducible exact In.head | apply In.tail)) hy.1 fun x pa pn pc qa qn qc hx hpv hpn hqn => ?_
    replace hpv : pv = .agg #[.slice pa pn pc, .slice qa qn qc] := hpv
    subst hpv
    have hsm := hs _ hx
    have hlk : lkE B k = some x := lkE_of_mem (hk ▸ hnd) hx
    unfold SmT at hsm
    simp only at hsm
    refine T_seq (T_reg rfl ?_)
    refine V_q (q_entry rfl rfl (by repeat (first | with_reducible exact Sel.head | apply Sel.tail))) rfl rfl ?_
    refine V_q (q_ext rfl rfl rfl) rfl rfl ?_
    refine V_q (q_ext rfl rfl rfl) rfl rfl ?_
    refine V_l (l_alloc (cs := [.int .i64 0, .int .i64 0, .int .i64 0]) rfl tz147 rfl) rfl rfl ?_; rintro g4 -
    refine V_l (l_alloc (cs := [.slice none 0 0, .slice none 0 0]) rfl tz28 rfl) rfl rfl ?_; rintro g5 -
    refine V_n (l_st rfl ty147 rfl rfl rfl rfl rfl (by repeat (first | with_reducible exact Put.head | apply Put.tail)) (by repeat (first | exact PutL.z | apply PutL.s | apply PutL.t))) rfl rfl ?_; rintro ⟨⟩ -
    refine V_n (l_st rfl ty28 rfl rfl rfl rfl rfl (by repeat (first | with_reducible exact Put.head | apply Put.tail)) (by repeat (first | exact PutL.z | apply PutL.s | apply PutL.t))) rfl rfl ?_; rintro ⟨⟩ -
    refine V_next (fun _ => rfl) ?_
    refine T_drawn hmix (.pure 0 <| .pure 1 <| .quiet 2 <| .pure 3 <| .quiet 4 <| .pure 5 <| .quiet 6 <| .quiet 7 <| .loud 8 <| .pure 9 <| .loud 10 <| .loud 11 <| .pure 12 <| .fin) (by decide +kernel) ?_
    refine W_p rfl (q_mov rfl rfl) rfl rfl ?_
    refine W_p rfl (q_iaA rfl Tryz.underlying147 ty3 rfl rfl (by decide) (by decide)) rfl rfl ?_
    refine W_ld rfl rfl ty3 rfl (by repeat (first | with_reducible exact Sel.head | apply Sel.tail)) rfl rfl rfl ?_
    refine W_p rfl (q_iaA rfl Tryz.underlying147 ty3 rfl rfl (by decide) (by decide)) rfl rfl ?_
    refine W_ld rfl rfl ty3 rfl (by repeat (first | with_reducible exact Sel.head | apply Sel.tail)) rfl rfl rfl ?_
    refine W_p rfl (q_iaA rfl Tryz.underlying147 ty3 rfl rfl (by decide) (by decide)) rfl rfl ?_
    refine W_ld rfl rfl ty3 rfl (by repeat (first | with_reducible exact Sel.head | apply Sel.tail)) rfl rfl rfl ?_
    refine W_ldA rfl rfl ty28 rfl (by repeat (first | with_reducible exact Sel.head | apply Sel.tail)) (by repeat (first | exact SubL.z | apply SubL.s | apply SubL.t)) rfl rfl ?_
    refine W_l rfl (l_call rfl ent61 rfl (c_Copy x.sh x.da pa qa pn pc qn qc (by omega) (by omega)) (by repeat (first | with_reducible exact Pick.nil | apply Pick.cons (by repeat (first | with_reducible exact Sel.head | apply Sel.tail)))) (by repeat (first | with_reducible exact Ins.nil | refine Ins.cons (by repeat (first | with_reducible exact In.head | apply In.tail)) ?_)) (fun _ => (by repeat (first | with_reducible exact App.nil | apply App.cons))) (fun _ => (by repeat (first | with_reducible exact App.nil | apply App.cons)))) (fun _ _ h => by repeat (first | exact trivial | refine ⟨?_, h.weak (by repeat (first | exact List.Sublist.refl _ | exact List.nil_sublist _ | with_reducible apply List.Sublist.cons_cons | apply List.Sublist.cons)) (by simp +contextual)⟩)) rfl rfl ?_; rintro ⟨⟨a1, c1⟩, ⟨b1, d1⟩⟩ -
    refine W_p rfl (q_buildS rfl pl131 tz131 rfl rfl (by repeat (first | exact FillL.nil | apply FillL.cons rfl rfl (by repeat (first | exact PutL.z | apply PutL.s | apply PutL.t))))) rfl rfl ?_
    refine W_l rfl (l_bs [.int .i64 0, .int .i64 0, .int .i64 0, .slice none 0 0, .slice none 0 0] rfl Tryz.underlying65 ty131 tz131 (by decide) rfl rfl rfl (by repeat (first | exact FillL.nil | apply FillL.cons rfl rfl (by repeat (first | exact PutL.z | apply PutL.s | apply PutL.t))))) (fun _ _ h => by repeat (first | exact trivial | refine ⟨?_, h.weak (by repeat (first | exact List.Sublist.refl _ | exact List.nil_sublist _ | with_reducible apply List.Sublist.cons_cons | apply List.Sublist.cons)) (by simp +contextual)⟩)) rfl rfl ?_; rintro g26 -
    refine W_l rfl (l_appB rfl Tryz.underlying65 ty131 tz131 tb131 rfl (by decide) rfl rfl (by repeat (first | with_reducible exact Sel.head | apply Sel.tail)) (fun _ => (by repeat (first | with_reducible exact Put.head | apply Put.tail))) rfl rfl (by simp [maxLen]; omega) (by simp; omega)) (fun _ _ h => by repeat (first | exact trivial | refine ⟨?_, h.weak (by repeat (first | exact List.Sublist.refl _ | exact List.nil_sublist _ | with_reducible apply List.Sublist.cons_cons | apply List.Sublist.cons)) (by simp +contextual)⟩)) rfl rfl ?_; rintro v27 -
    refine W_p rfl (q_asg rfl rfl) rfl rfl ?_
    refine W_fin ?_
    intro w h
    have h1 := h.know (aEv rMsg ((done ++ [(k, Value.agg #[.slice pa pn pc, .slice qa qn qc])]).map (fB B)) (cs ++ [Value.int .i64 k.1, Value.int .i64 k.2.1, Value.int .i64 k.2.2, Value.slice a1 pn c1, Value.slice b1 qn d1])) (by
      rw [List.map_append]
      exact EvP.snoc (show EvP rMsg _ _ _ _ from h.atom (A := aEv rMsg (done.map (fB B)) cs) (by repeat (first | with_reducible exact In.head | apply In.tail))) (by
        unfold fB
        rw [hlk]
        exact ⟨a1, pn, c1, b1, qn, d1, rfl, h.atom (A := aSl I x.sh a1 pn c1) (by repeat (first | with_reducible exact In.head | apply In.tail)), h.atom (A := aSl I x.da b1 qn d1) (by repeat (first | with_reducible exact In.head | apply In.tail))⟩))
    exact ⟨(done ++ [(k, .agg #[.slice pa pn pc, .slice qa qn qc])], n + 1, v27, cs ++ [.int .i64 k.1, .int .i64 k.2.1, .int .i64 k.2.2, .slice a1 pn c1, .slice b1 qn d1]), ⟨by simp; omega, hnd', hsub', by simp [hd3]⟩, ⟨rfl, rfl, trivial⟩, h1.weak (by repeat (first | exact List.Sublist.refl _ | exact List.nil_sublist _ | with_reducible apply List.Sublist.cons_cons | apply List.Sublist.cons)) (by simp)⟩
end Go.Proofs.YtgbhegmhbeekpaaGreat
