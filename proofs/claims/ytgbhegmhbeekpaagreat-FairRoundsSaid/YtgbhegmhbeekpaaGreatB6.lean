/-
  Contracts: the bag.
-/
import Derived.Test.YtgbhegmhbeekpaaGreatM1
namespace Go.Proofs.YtgbhegmhbeekpaaGreat
open Go
set_option maxRecDepth 100000

abbrev Key3 := Int × Int × Int

def rTn : Rep Tn where
  k := 2
  p M w x cs := ∃ a n c b m d, cs = [.slice a n c, .slice b m d] ∧ SlP I M w x.sh a n c ∧ SlP I M w x.da b m d
  mov h k hM := let ⟨a, n, c, b, m, d, h1, h2, h3⟩ := h; ⟨a, n, c, b, m, d, h1, h2.mov k hM, h3.mov k hM⟩
  len h := by obtain ⟨a, n, c, b, m, d, h1, h2, h3⟩ := h; rw [h1]; rfl
  one h v hv := by
    obtain ⟨a, n, c, b, m, d, h1, h2, h3⟩ := h
    rw [h1] at hv
    simp only [List.mem_cons, List.not_mem_nil, or_false] at hv
    rcases hv with rfl | rfl <;> rfl

theorem kt3 : KeyT Tryz.prog 147 κ3 := keyT_3 Tryz.underlying147 Tryz.underlying3 ty3

def Tn0 : Tn := ⟨[], []⟩
def zT : Value := .agg #[.slice none 0 0, .slice none 0 0]
def bput (B : List (Key3 × Tn)) (k : Key3) (x : Tn) : List (Key3 × Tn) := if (lkE B k).isSome then B else B ++ [(k, x)]

section
variable {P : Program} {nn : Nat} {l : LEnv} {C : Ctx} {own : List Res} {ats : List Atom} {Q : Exit → LEnv → World → Prop}
theorem T_lk {cd : Code} {B : List (Key3 × Tn)} {E : List (Key3 × Value)} (k : Key3) (hs : In (aMp rTn B E) ats)
    (h : ∀ pa pn pc qa qn qc, (lkE E k).getD zT = .agg #[.slice pa pn pc, .slice qa qn qc] → (lkE E k).isSome = (lkE B k).isSome → T P nn cd l C own (aSl I ((lkE B k).getD Tn0).sh pa pn pc :: aSl I ((lkE B k).getD Tn0).da qa qn qc :: ats) Q) : T P nn cd l C own ats Q := by
  intro w hw
  have h0 : Mp rTn _ w B E := hw.atom hs
  rcases h0.lk k with ⟨h1, h2⟩ | ⟨x, cs, h1, h2, pa, pn, pc, qa, qn, qc, h3, h4, h5⟩
  · have e1 : (lkE B k).getD Tn0 = Tn0 := by rw [h1]; rfl
    rw [e1] at h
    exact h none 0 0 none 0 0 (by rw [h2]; rfl) (by rw [h1, h2]; rfl) w ((hw.nil I).nil I)
  · have e1 : (lkE B k).getD Tn0 = x := by rw [h1]; rfl
    rw [e1] at h
    subst h3
    exact h pa pn pc qa qn qc (by rw [h2]; rfl) (by rw [h1, h2]; rfl) w ((hw.know (aSl I x.da qa qn qc) h5).know (aSl I x.sh pa pn pc) h4)
end

theorem c_New : Con Tryz.prog 58 #[] [] []
    (fun _ : Nat × Nat => True) (fun y => .pointer (some ⟨y.1, 0, none⟩)) (fun y => [rBlk y.1 137 [.map (some y.2)], rMap κ3 y.2 []]) (fun _ => [aMp (K := Key3) rTn [] []]) := by
  refine con_of (n := 4) Tryz.func58 rfl rfl rfl (by simp) ?_
  intro C hC
  refine T_seq (T_reg rfl ?_)
  refine V_q (q_asg rfl rfl) rfl rfl ?_
  refine V_next (fun _ => rfl) ?_
  refine T_seq (T_reg rfl ?_)
  refine V_l (l_mkmap κ3 rfl) rfl rfl ?_; rintro r -
  refine V_q (q_buildS rfl pl137 tz137 rfl rfl (by repeat (first | exact FillL.nil | apply FillL.cons rfl rfl (by repeat (first | exact PutL.z | apply PutL.s | apply PutL.t))))) rfl rfl ?_
  refine V_l (l_boxA rfl rfl) rfl rfl ?_; rintro g3 -
  refine V_q (q_asg rfl rfl) rfl rfl ?_
  refine V_next (fun _ => rfl) ?_
  exact T_ret fun w h => ⟨_, res_1 rfl, (g3, r), trivial, rfl, h.know (aMp (K := Key3) rTn [] []) .nil⟩

theorem c_Len (g r : Nat) (B : List (Key3 × Tn)) (E : List (Key3 × Value)) : Con Tryz.prog 103 #[.pointer (some ⟨g, 0, none⟩)] [rBlk g 137 [.map (some r)], rMap κ3 r E] [aMp rTn B E]
    (fun _ : Unit => True) (fun _ => .int .i64 B.length) (fun _ => [rBlk g 137 [.map (some r)], rMap κ3 r E]) (fun _ => []) := by
  refine con_of (n := 8) Tryz.func103 rfl rfl rfl (by simp) ?_
  intro C hC
  refine T_pure (φ := B.length = E.length) (fun w h => (show Mp rTn _ w B E from h.atom (A := aMp rTn B E) (by repeat (first | with_reducible exact In.head | apply In.tail))).len) (fun hlen => ?_)
  refine T_seq (T_reg rfl ?_)
  refine V_q (q_asg rfl rfl) rfl rfl ?_
  refine V_next (fun _ => rfl) ?_
  refine T_seq (T_reg rfl ?_)
  refine V_q (q_mov rfl rfl) rfl rfl ?_
  refine V_q (q_nil rfl rfl) rfl rfl ?_
  refine V_q (q_fa rfl fd137_0 rfl) rfl rfl ?_
  refine V_q (q_ld rfl ty135 rfl (by repeat (first | with_reducible exact Sel.head | apply Sel.tail)) rfl) rfl rfl ?_
  refine V_q (q_lenM rfl Tryz.underlying135 rfl (by repeat (first | with_reducible exact Sel.head | apply Sel.tail))) rfl rfl ?_
  refine V_q (q_asg rfl rfl) rfl rfl ?_
  refine V_next (fun _ => rfl) ?_
  exact T_ret fun w h => ⟨_, res_1 rfl, (), trivial, by rw [hlen], h.weak (List.Sublist.refl _) (by simp)⟩

theorem c_Has (g r : Nat) (B : List (Key3 × Tn)) (E : List (Key3 × Value)) (fr to tag : Int) : Con Tryz.prog 93 #[.pointer (some ⟨g, 0, none⟩), .int .i64 fr, .int .i64 to, .int .i64 tag] [rBlk g 137 [.map (some r)], rMap κ3 r E] [aMp rTn B E]
    (fun _ : Unit => True) (fun _ => .bool (lkE B (fr, to, tag)).isSome) (fun _ => [rBlk g 137 [.map (some r)], rMap κ3 r E]) (fun _ => []) := by
  refine con_of (n := 24) Tryz.func93 rfl rfl rfl (by simp) ?_
  intro C hC
  refine T_lk (fr, to, tag) (by repeat (first | with_reducible exact In.head | apply In.tail)) fun pa pn pc qa qn qc e1 e2 => ?_
  refine T_seq (T_reg rfl ?_)
  refine V_q (q_asg rfl rfl) rfl rfl ?_
  refine V_next (fun _ => rfl) ?_
  refine T_seq (T_reg rfl ?_)
  refine V_q (q_mov rfl rfl) rfl rfl ?_
  refine V_q (q_nil rfl rfl) rfl rfl ?_
  refine V_q (q_fa rfl fd137_0 rfl) rfl rfl ?_
  refine V_q (q_ld rfl ty135 rfl (by repeat (first | with_reducible exact Sel.head | apply Sel.tail)) rfl) rfl rfl ?_
  refine V_q (q_mov rfl rfl) rfl rfl ?_
  refine V_q (q_mov rfl rfl) rfl rfl ?_
  refine V_q (q_mov rfl rfl) rfl rfl ?_
  refine V_q (q_buildA rfl Tryz.underlying147 ty3 tz147 rfl rfl (by repeat (first | exact FillL.nil | apply FillL.cons rfl rfl (by repeat (first | exact PutL.z | apply PutL.s | apply PutL.t))))) rfl rfl ?_
  refine V_q (q_lookup2E (fr, to, tag) rfl Tryz.underlying135 kt3 tz28 rfl rfl (by repeat (first | with_reducible exact Sel.head | apply Sel.tail)) e1 e2) rfl rfl ?_
  refine V_q (q_mov rfl rfl) rfl rfl ?_
  refine V_q (q_ext rfl rfl rfl) rfl rfl ?_
  refine V_q (q_ext rfl rfl rfl) rfl rfl ?_
  refine V_l (l_alloc (cs := [.slice none 0 0, .slice none 0 0]) rfl tz28 rfl) rfl rfl ?_; rintro g9 -
  refine V_n (l_st rfl ty28 rfl rfl rfl rfl rfl (by repeat (first | with_reducible exact Put.head | apply Put.tail)) (by repeat (first | exact PutL.z | apply PutL.s | apply PutL.t))) rfl rfl ?_; rintro ⟨⟩ -
  refine V_q (q_asg rfl rfl) rfl rfl ?_
  refine V_next (fun _ => rfl) ?_
  refine T_seq (T_reg rfl ?_)
  refine V_q (q_mov rfl rfl) rfl rfl ?_
  refine V_q (q_asg rfl rfl) rfl rfl ?_
  refine V_next (fun _ => rfl) ?_
  exact T_ret fun w h => ⟨_, res_1 rfl, (), trivial, rfl, h.weak (by repeat (first | exact List.Sublist.refl _ | exact List.nil_sublist _ | with_reducible apply List.Sublist.cons_cons | apply List.Sublist.cons)) (by simp)⟩

theorem c_Put (g r : Nat) (B : List (Key3 × Tn)) (E : List (Key3 × Value)) (fr to tag : Int) (sh da : List Int) (a b : Option Addr) (n c m d : Nat) (h1 : n * 8 ≤ 140737488355328) (h2 : m * 8 ≤ 140737488355328) :
    Con Tryz.prog 95 #[.pointer (some ⟨g, 0, none⟩), .agg #[.int .i64 fr, .int .i64 to, .int .i64 tag, .slice a n c, .slice b m d]] [rBlk g 137 [.map (some r)], rMap κ3 r E] [aMp rTn B E, aSl I sh a n c, aSl I da b m d]
    (fun _ : List (Key3 × Value) => True) (fun _ => .bool (!(lkE B (fr, to, tag)).isSome)) (fun y => [rBlk g 137 [.map (some r)], rMap κ3 r y]) (fun y => [aMp rTn (bput B (fr, to, tag) ⟨sh, da⟩) y]) := by
  refine con_of (n := 33) Tryz.func95 rfl rfl rfl (by simp) ?_
  intro C hC
  refine T_lk (fr, to, tag) (by repeat (first | with_reducible exact In.head | apply In.tail)) fun pa pn pc qa qn qc e1 e2 => ?_
  refine T_seq (T_reg rfl ?_)
  refine V_l (l_boxA rfl rfl) rfl rfl ?_; rintro g3 -
  refine V_q (q_asg rfl rfl) rfl rfl ?_
  refine V_next (fun _ => rfl) ?_
  refine T_seq (T_reg rfl ?_)
  refine V_q (q_fa rfl fd131_0 rfl) rfl rfl ?_
  refine V_q (q_ld rfl ty3 rfl (by repeat (first | with_reducible exact Sel.head | apply Sel.tail)) rfl) rfl rfl ?_
  refine V_q (q_fa rfl fd131_1 rfl) rfl rfl ?_
  refine V_q (q_ld rfl ty3 rfl (by repeat (first | with_reducible exact Sel.head | apply Sel.tail)) rfl) rfl rfl ?_
  refine V_q (q_fa rfl fd131_2 rfl) rfl rfl ?_
  refine V_q (q_ld rfl ty3 rfl (by repeat (first | with_reducible exact Sel.head | apply Sel.tail)) rfl) rfl rfl ?_
  refine V_q (q_buildA rfl Tryz.underlying147 ty3 tz147 rfl rfl (by repeat (first | exact FillL.nil | apply FillL.cons rfl rfl (by repeat (first | exact PutL.z | apply PutL.s | apply PutL.t))))) rfl rfl ?_
  refine V_l (l_alloc (cs := [.int .i64 0, .int .i64 0, .int .i64 0]) rfl tz147 rfl) rfl rfl ?_; rintro g5 -
  refine V_n (l_st rfl ty147 rfl rfl rfl rfl rfl (by repeat (first | with_reducible exact Put.head | apply Put.tail)) (by repeat (first | exact PutL.z | apply PutL.s | apply PutL.t))) rfl rfl ?_; rintro ⟨⟩ -
  refine V_next (fun _ => rfl) ?_
  refine T_seq ?_
  refine T_seq (T_drawn hmix (.pure 0 <| .pure 1 <| .pure 2 <| .quiet 3 <| .quiet 4 <| .quiet 5 <| .pure 6 <| .pure 7 <| .pure 8 <| .loud 9 <| .bar 10 <| .pure 11 <| .fin) (by decide +kernel) ?_)
  refine W_p rfl (q_mov rfl rfl) rfl rfl ?_
  refine W_p rfl (q_nil rfl rfl) rfl rfl ?_
  refine W_p rfl (q_fa rfl fd137_0 rfl) rfl rfl ?_
  refine W_ld rfl rfl ty135 rfl (by repeat (first | with_reducible exact Sel.head | apply Sel.tail)) rfl rfl rfl ?_
  refine W_ldA rfl rfl ty147 rfl (by repeat (first | with_reducible exact Sel.head | apply Sel.tail)) (by repeat (first | exact SubL.z | apply SubL.s | apply SubL.t)) rfl rfl ?_
  refine W_q rfl (q_lookup2E (fr, to, tag) rfl Tryz.underlying135 kt3 tz28 rfl rfl (by repeat (first | with_reducible exact Sel.head | apply Sel.tail)) e1 e2) rfl rfl ?_
  refine W_p rfl (q_mov rfl rfl) rfl rfl ?_
  refine W_p rfl (q_ext rfl rfl rfl) rfl rfl ?_
  refine W_p rfl (q_ext rfl rfl rfl) rfl rfl ?_
  refine W_l rfl (l_alloc (cs := [.slice none 0 0, .slice none 0 0]) rfl tz28 rfl) (fun _ _ h => by repeat (first | exact trivial | refine ⟨?_, h.weak (by repeat (first | exact List.Sublist.refl _ | exact List.nil_sublist _ | with_reducible apply List.Sublist.cons_cons | apply List.Sublist.cons)) (by simp +contextual)⟩)) rfl rfl ?_; rintro g6 -
  refine W_bn rfl (l_st rfl ty28 rfl rfl rfl rfl rfl (by repeat (first | with_reducible exact Put.head | apply Put.tail)) (by repeat (first | exact PutL.z | apply PutL.s | apply PutL.t))) rfl rfl ?_; rintro ⟨⟩ -
  refine W_p rfl (q_asg rfl rfl) rfl rfl ?_
  refine W_next (fun _ => rfl) ?_
  refine T_seq (T_reg rfl ?_)
  refine V_q (q_mov rfl rfl) rfl rfl ?_
  refine V_next (fun _ => rfl) ?_
  refine T_cond rfl (fun hb => ?_) (fun hb => ?_)
  · refine T_seq (T_reg rfl ?_)
    refine V_q (q_asg rfl rfl) rfl rfl ?_
    refine V_next (fun _ => rfl) ?_
    have e : bput B (fr, to, tag) ⟨sh, da⟩ = B := by unfold bput; rw [hb]; rfl
    exact T_ret fun w h => ⟨_, res_1 rfl, E, trivial, by rw [hb]; rfl, h.weak (by repeat (first | exact List.Sublist.refl _ | exact List.nil_sublist _ | with_reducible apply List.Sublist.cons_cons | apply List.Sublist.cons)) (by rw [e]; simp)⟩
  refine T_skip_next (fun _ => rfl) ?_
  refine T_seq (T_drawn hmix (.pure 0 <| .pure 1 <| .pure 2 <| .quiet 3 <| .quiet 4 <| .pure 5 <| .quiet 6 <| .loud 7 <| .bar 8 <| .fin) (by decide +kernel) ?_)
  refine W_p rfl (q_mov rfl rfl) rfl rfl ?_
  refine W_p rfl (q_nil rfl rfl) rfl rfl ?_
  refine W_p rfl (q_fa rfl fd137_0 rfl) rfl rfl ?_
  refine W_ld rfl rfl ty135 rfl (by repeat (first | with_reducible exact Sel.head | apply Sel.tail)) rfl rfl rfl ?_
  refine W_ldA rfl rfl ty147 rfl (by repeat (first | with_reducible exact Sel.head | apply Sel.tail)) (by repeat (first | exact SubL.z | apply SubL.s | apply SubL.t)) rfl rfl ?_
  refine W_p rfl (q_fa rfl fd131_3 rfl) rfl rfl ?_
  refine W_ldA rfl rfl ty28 rfl (by repeat (first | with_reducible exact Sel.head | apply Sel.tail)) (by repeat (first | exact SubL.z | apply SubL.s | apply SubL.t)) rfl rfl ?_
  refine W_l rfl (l_call rfl ent61 rfl (c_Copy sh da a b n c m d h1 h2) (by repeat (first | with_reducible exact Pick.nil | apply Pick.cons (by repeat (first | with_reducible exact Sel.head | apply Sel.tail)))) (by repeat (first | with_reducible exact Ins.nil | refine Ins.cons (by repeat (first | with_reducible exact In.head | apply In.tail)) ?_)) (fun _ => (by repeat (first | with_reducible exact App.nil | apply App.cons))) (fun _ => (by repeat (first | with_reducible exact App.nil | apply App.cons)))) (fun _ _ h => by repeat (first | exact trivial | refine ⟨?_, h.weak (by repeat (first | exact List.Sublist.refl _ | exact List.nil_sublist _ | with_reducible apply List.Sublist.cons_cons | apply List.Sublist.cons)) (by simp +contextual)⟩)) rfl rfl ?_; rintro ⟨⟨a', c'⟩, ⟨b', d'⟩⟩ -
  refine W_bn rfl (l_mapupd (fr, to, tag) rfl Tryz.underlying135 kt3 rfl rfl rfl (by repeat (first | with_reducible exact Put.head | apply Put.tail))) rfl rfl ?_; rintro ⟨⟩ -
  refine W_next (fun _ => rfl) ?_
  refine T_seq (T_reg rfl ?_)
  refine V_q (q_asg rfl rfl) rfl rfl ?_
  refine V_next (fun _ => rfl) ?_
  refine T_ret fun w h => ?_
  have hk := (show Mp rTn _ w B E from h.atom (A := aMp rTn B E) (by repeat (first | with_reducible exact In.head | apply In.tail))).put (fr, to, tag) (x := ⟨sh, da⟩) (cs := [.slice a' n c', .slice b' m d']) ⟨a', n, c', b', m, d', rfl, h.atom (A := aSl I sh a' n c') (by repeat (first | with_reducible exact In.head | apply In.tail)), h.atom (A := aSl I da b' m d') (by repeat (first | with_reducible exact In.head | apply In.tail))⟩
  have e : bput B (fr, to, tag) ⟨sh, da⟩ = putE B (fr, to, tag) ⟨sh, da⟩ := by unfold bput putE; rw [hb]; rfl
  rw [← e] at hk
  exact ⟨_, res_1 rfl, _, trivial, by rw [hb]; rfl, (h.know (aMp rTn _ _) hk).weak (by repeat (first | exact List.Sublist.refl _ | exact List.nil_sublist _ | with_reducible apply List.Sublist.cons_cons | apply List.Sublist.cons)) (by simp)⟩

theorem c_Take (g r : Nat) (B : List (Key3 × Tn)) (E : List (Key3 × Value)) (fr to tag : Int) :
    Con Tryz.prog 96 #[.pointer (some ⟨g, 0, none⟩), .int .i64 fr, .int .i64 to, .int .i64 tag] [rBlk g 137 [.map (some r)], rMap κ3 r E] [aMp rTn B E]
    (fun _ : (Option Addr × Nat × Nat) × (Option Addr × Nat × Nat) => True) (fun y => .tuple #[.agg #[.slice y.1.1 y.1.2.1 y.1.2.2, .slice y.2.1 y.2.2.1 y.2.2.2], .bool (lkE B (fr, to, tag)).isSome])
    (fun _ => [rBlk g 137 [.map (some r)], rMap κ3 r (delE E (fr, to, tag))])
    (fun y => [aMp rTn (delE B (fr, to, tag)) (delE E (fr, to, tag)), aSl I ((lkE B (fr, to, tag)).getD Tn0).sh y.1.1 y.1.2.1 y.1.2.2, aSl I ((lkE B (fr, to, tag)).getD Tn0).da y.2.1 y.2.2.1 y.2.2.2]) := by
  refine con_of (n := 33) Tryz.func96 rfl rfl rfl (by simp) ?_
  intro C hC
  refine T_lk (fr, to, tag) (by repeat (first | with_reducible exact In.head | apply In.tail)) fun pa pn pc qa qn qc e1 e2 => ?_
  refine T_seq (T_reg rfl ?_)
  refine V_l (l_alloc (cs := [.slice none 0 0, .slice none 0 0]) rfl tz28 rfl) rfl rfl ?_; rintro g8 -
  refine V_q (q_asg rfl rfl) rfl rfl ?_
  refine V_next (fun _ => rfl) ?_
  refine T_seq (T_reg rfl ?_)
  refine V_q (q_mov rfl rfl) rfl rfl ?_
  refine V_q (q_mov rfl rfl) rfl rfl ?_
  refine V_q (q_mov rfl rfl) rfl rfl ?_
  refine V_q (q_buildA rfl Tryz.underlying147 ty3 tz147 rfl rfl (by repeat (first | exact FillL.nil | apply FillL.cons rfl rfl (by repeat (first | exact PutL.z | apply PutL.s | apply PutL.t))))) rfl rfl ?_
  refine V_l (l_alloc (cs := [.int .i64 0, .int .i64 0, .int .i64 0]) rfl tz147 rfl) rfl rfl ?_; rintro g10 -
  refine V_n (l_st rfl ty147 rfl rfl rfl rfl rfl (by repeat (first | with_reducible exact Put.head | apply Put.tail)) (by repeat (first | exact PutL.z | apply PutL.s | apply PutL.t))) rfl rfl ?_; rintro ⟨⟩ -
  refine V_next (fun _ => rfl) ?_
  refine T_seq (T_drawn hmix (.pure 0 <| .pure 1 <| .pure 2 <| .quiet 3 <| .quiet 4 <| .quiet 5 <| .pure 6 <| .pure 7 <| .pure 8 <| .loud 9 <| .bar 10 <| .pure 11 <| .fin) (by decide +kernel) ?_)
  refine W_p rfl (q_mov rfl rfl) rfl rfl ?_
  refine W_p rfl (q_nil rfl rfl) rfl rfl ?_
  refine W_p rfl (q_fa rfl fd137_0 rfl) rfl rfl ?_
  refine W_ld rfl rfl ty135 rfl (by repeat (first | with_reducible exact Sel.head | apply Sel.tail)) rfl rfl rfl ?_
  refine W_ldA rfl rfl ty147 rfl (by repeat (first | with_reducible exact Sel.head | apply Sel.tail)) (by repeat (first | exact SubL.z | apply SubL.s | apply SubL.t)) rfl rfl ?_
  refine W_q rfl (q_lookup2E (fr, to, tag) rfl Tryz.underlying135 kt3 tz28 rfl rfl (by repeat (first | with_reducible exact Sel.head | apply Sel.tail)) e1 e2) rfl rfl ?_
  refine W_p rfl (q_mov rfl rfl) rfl rfl ?_
  refine W_p rfl (q_ext rfl rfl rfl) rfl rfl ?_
  refine W_p rfl (q_ext rfl rfl rfl) rfl rfl ?_
  refine W_l rfl (l_alloc (cs := [.slice none 0 0, .slice none 0 0]) rfl tz28 rfl) (fun _ _ h => by repeat (first | exact trivial | refine ⟨?_, h.weak (by repeat (first | exact List.Sublist.refl _ | exact List.nil_sublist _ | with_reducible apply List.Sublist.cons_cons | apply List.Sublist.cons)) (by simp +contextual)⟩)) rfl rfl ?_; rintro g11 -
  refine W_bn rfl (l_st rfl ty28 rfl rfl rfl rfl rfl (by repeat (first | with_reducible exact Put.head | apply Put.tail)) (by repeat (first | exact PutL.z | apply PutL.s | apply PutL.t))) rfl rfl ?_; rintro ⟨⟩ -
  refine W_p rfl (q_asg rfl rfl) rfl rfl ?_
  refine W_next (fun _ => rfl) ?_
  refine T_seq (T_drawn hmix (.pure 0 <| .pure 1 <| .pure 2 <| .quiet 3 <| .quiet 4 <| .bar 5 <| .fin) (by decide +kernel) ?_)
  refine W_p rfl (q_mov rfl rfl) rfl rfl ?_
  refine W_p rfl (q_nil rfl rfl) rfl rfl ?_
  refine W_p rfl (q_fa rfl fd137_0 rfl) rfl rfl ?_
  refine W_ld rfl rfl ty135 rfl (by repeat (first | with_reducible exact Sel.head | apply Sel.tail)) rfl rfl rfl ?_
  refine W_ldA rfl rfl ty147 rfl (by repeat (first | with_reducible exact Sel.head | apply Sel.tail)) (by repeat (first | exact SubL.z | apply SubL.s | apply SubL.t)) rfl rfl ?_
  refine W_bn rfl (l_delete (fr, to, tag) rfl Tryz.underlying135 kt3 rfl rfl (by repeat (first | with_reducible exact Put.head | apply Put.tail))) rfl rfl ?_; rintro ⟨⟩ -
  refine W_next (fun _ => rfl) ?_
  refine T_seq (T_reg rfl ?_)
  refine V_q (q_ldA rfl ty28 rfl (by repeat (first | with_reducible exact Sel.head | apply Sel.tail)) (by repeat (first | exact SubL.z | apply SubL.s | apply SubL.t))) rfl rfl ?_
  refine V_q (q_mov rfl rfl) rfl rfl ?_
  refine V_n (l_st rfl ty28 rfl rfl rfl rfl rfl (by repeat (first | with_reducible exact Put.head | apply Put.tail)) (by repeat (first | exact PutL.z | apply PutL.s | apply PutL.t))) rfl rfl ?_; rintro ⟨⟩ -
  refine V_q (q_asg rfl rfl) rfl rfl ?_
  refine V_next (fun _ => rfl) ?_
  refine T_ret fun w h => ?_
  have hk := (show Mp rTn _ w B E from h.atom (A := aMp rTn B E) (by repeat (first | with_reducible exact In.head | apply In.tail))).del (fr, to, tag)
  exact ⟨_, res_ct rfl ty28 rfl (h.res (by repeat (first | with_reducible exact Sel.head | apply Sel.tail))) rfl, ((pa, pn, pc), (qa, qn, qc)), trivial, rfl, (h.know (aMp rTn _ _) hk).weak (by repeat (first | exact List.Sublist.refl _ | exact List.nil_sublist _ | with_reducible apply List.Sublist.cons_cons | apply List.Sublist.cons)) (by simp)⟩
end Go.Proofs.YtgbhegmhbeekpaaGreat
