/-
  Contracts: messages, looked for and put in order.
-/
import Derived.Test.YtgbhegmhbeekpaaB3
namespace Go.Proofs.Ytgbhegmhbeekpaa
open Go

def rMsg : Rep Msg where
  k := 5
  p M w x cs := ∃ a n c b m d, cs = [.int .i64 x.fr, .int .i64 x.to, .int .i64 x.tag, .slice a n c, .slice b m d] ∧ SlP I M w x.t.sh a n c ∧ SlP I M w x.t.da b m d
  mov h k hM := let ⟨a, n, c, b, m, d, h1, h2, h3⟩ := h; ⟨a, n, c, b, m, d, h1, h2.mov k hM, h3.mov k hM⟩
  len h := by obtain ⟨a, n, c, b, m, d, h1, h2, h3⟩ := h; rw [h1]; rfl
  one h v hv := by
    obtain ⟨a, n, c, b, m, d, h1, h2, h3⟩ := h
    rw [h1] at hv
    simp only [List.mem_cons, List.not_mem_nil, or_false] at hv
    rcases hv with rfl | rfl | rfl | rfl | rfl <;> rfl

section
variable {P : Program} {nn : Nat} {l : LEnv} {C : Ctx} {own : List Res} {ats : List Atom} {Q : Exit → LEnv → World → Prop} {K : LEnv → World → Prop}

theorem St.msg {w : World} (h : St C own ats w) {xs : List Msg} {a : Option Addr} {n c i : Nat} (hs : In (aSl rMsg xs a n c) ats) (hi : i < n) :
    ∃ x ad pa pn pc qa qn qc, xs[i]? = some x ∧ ea a i 5 = some ad ∧ St C own (aCells ad [.int .i64 x.fr, .int .i64 x.to, .int .i64 x.tag, .slice pa pn pc, .slice qa qn qc] :: aSl I x.t.sh pa pn pc :: aSl I x.t.da qa qn qc :: ats) w := by
  have h1 : SlP rMsg _ _ _ _ _ _ := h.atom hs
  have hx : i < xs.length := by have := h1.1; omega
  obtain ⟨ad, cs, e1, e2, pa, pn, pc, qa, qn, qc, e3, e4, e5⟩ := h1.el hi hx
  subst e3
  exact ⟨xs[i], ad, pa, pn, pc, qa, qn, qc, List.getElem?_eq_getElem hx, e1, ((h.know (aSl I xs[i].t.da qa qn qc) e5).know (aSl I xs[i].t.sh pa pn pc) e4).know (aCells ad _) e2⟩

theorem T_msg {cd : Code} {xs : List Msg} {a : Option Addr} {n c : Nat} (i : Nat) (hs : In (aSl rMsg xs a n c) ats) (hi : i < n)
    (h : ∀ x ad pa pn pc qa qn qc, xs[i]? = some x → ea a i 5 = some ad → T P nn cd l C own (aCells ad [.int .i64 x.fr, .int .i64 x.to, .int .i64 x.tag, .slice pa pn pc, .slice qa qn qc] :: aSl I x.t.sh pa pn pc :: aSl I x.t.da qa qn qc :: ats) Q) : T P nn cd l C own ats Q := by
  intro w hw
  obtain ⟨x, ad, pa, pn, pc, qa, qn, qc, h1, h2, h3⟩ := hw.msg hs hi
  exact h x ad pa pn pc qa qn qc h1 h2 w h3
end

def mt (fr to tag : Int) (x : Msg) : Bool := decide (x.fr = fr ∧ x.to = to ∧ x.tag = tag)
def fnd (ms : List Msg) (fr to tag : Int) : Int := match ms.findIdx? (mt fr to tag) with
  | some i => i
  | none => -1

theorem fnd_some {ms : List Msg} {fr to tag : Int} {k : Nat} {x : Msg} (hx : ms[k]? = some x) (hm : mt fr to tag x = true) (h : ∀ j y, j < k → ms[j]? = some y → mt fr to tag y = false) : fnd ms fr to tag = k := by
  have hk : k < ms.length := (List.getElem?_eq_some_iff.1 hx).1
  have : ms.findIdx? (mt fr to tag) = some k := by
    rw [List.findIdx?_eq_some_iff_getElem]
    refine ⟨hk, ?_, fun j hj => ?_⟩
    · rw [List.getElem?_eq_getElem hk] at hx; injection hx with hx; rw [hx]; exact hm
    · rw [h j _ hj (List.getElem?_eq_getElem (by omega))]; simp
  unfold fnd
  rw [this]
theorem fnd_none {ms : List Msg} {fr to tag : Int} (h : ∀ j y, j < ms.length → ms[j]? = some y → mt fr to tag y = false) : fnd ms fr to tag = -1 := by
  have : ms.findIdx? (mt fr to tag) = none := by
    rw [List.findIdx?_eq_none_iff]
    intro x hx
    obtain ⟨j, hj, rfl⟩ := List.mem_iff_getElem.1 hx
    exact h j _ hj (List.getElem?_eq_getElem hj)
  unfold fnd
  rw [this]

theorem c_find (ms : List Msg) (a : Option Addr) (n c : Nat) (kind fr to tag N : Int) : Con Try.prog 17 #[.slice a n c, .agg #[.int .i64 kind, .int .i64 fr, .int .i64 to, .int .i64 tag, .int .i64 N]] [] [aSl rMsg ms a n c]
    (fun _ : Unit => True) (fun _ => .int .i64 (fnd ms fr to tag)) (fun _ => []) (fun _ => []) := by
  refine con_of (n := 35) Try.func17 rfl rfl rfl (by simp) ?_
  intro C hC
  refine T_pure (φ := n = ms.length ∧ n ≤ maxLen) (fun w h => ⟨(sl_len h (xs := ms) (a := a) (by repeat (first | with_reducible exact In.head | apply In.tail))).1, Nat.le_trans (sl_len h (xs := ms) (a := a) (by repeat (first | with_reducible exact In.head | apply In.tail))).2.1 (sl_len h (xs := ms) (a := a) (by repeat (first | with_reducible exact In.head | apply In.tail))).2.2⟩) (fun hlen => ?_)
  obtain ⟨hm, hmax⟩ := hlen
  unfold maxLen at hmax
  refine T_seq (T_reg rfl ?_)
  refine V_l (l_boxA rfl rfl) rfl rfl ?_; rintro g3 -
  refine V_q (q_asg rfl rfl) rfl rfl ?_
  refine V_next (fun _ => rfl) ?_
  refine T_seq ?_
  refine T_seq (T_reg rfl ?_)
  refine V_q (q_mov rfl rfl) rfl rfl ?_
  refine V_q (q_len rfl Try.underlying43 rfl) rfl rfl ?_
  refine V_q (q_mov rfl rfl) rfl rfl ?_
  refine V_next (fun _ => rfl) ?_
  refine T_block ?_
  refine T_loop (fun k : Nat => [(7, .slice a n c), (8, .int .i64 n), (9, .int .i64 k), (3, .pointer (some ⟨g3, 0, none⟩))]) (fun _ => [rBlk g3 24 [.int .i64 kind, .int .i64 fr, .int .i64 to, .int .i64 tag, .int .i64 N]]) (fun _ => [aSl rMsg ms a n c])
    (fun k => k ≤ n ∧ ∀ j y, j < k → ms[j]? = some y → mt fr to tag y = false) (fun k => n - k) 0 ⟨by omega, by intro j y h; omega⟩ ⟨rfl, rfl, rfl, rfl, trivial⟩ (fun w h => h) ?_
  rintro k ⟨hk, hkk⟩
  refine T_seq (T_reg rfl ?_)
  refine V_q (q_lt rfl rfl rfl) rfl rfl ?_
  refine V_next (fun _ => rfl) ?_
  refine T_seq ?_
  refine T_cond rfl (fun hb => ?_) (fun hb => ?_)
  rotate_left
  · have hkn : k = n := by simp at hb; omega
    subst hkn
    refine T_exit_next (fun _ => rfl) ?_
    refine T_seq (T_reg rfl ?_)
    refine V_q (q_asg rfl rfl) rfl rfl ?_
    refine V_next (fun _ => rfl) ?_
    exact T_ret fun w h => ⟨_, res_1 rfl, (), trivial, by rw [fnd_none (fun j y hj => hkk j y (by omega))], h.weak (List.nil_sublist _) (by simp)⟩
  have hkn : k < n := by simp at hb; omega
  clear hb
  refine T_skip_next (fun _ => rfl) ?_
  refine T_cut (fun _ : Unit => [(7, .slice a n c), (8, .int .i64 n), (9, .int .i64 k), (3, .pointer (some ⟨g3, 0, none⟩))]) (fun _ => [rBlk g3 24 [.int .i64 kind, .int .i64 fr, .int .i64 to, .int .i64 tag, .int .i64 N]]) (fun _ => [aSl rMsg ms a n c])
    (fun _ => ∀ y, ms[k]? = some y → mt fr to tag y = false) ?_ ?_
  · refine T_block ?_
    refine T_msg k (by repeat (first | with_reducible exact In.head | apply In.tail)) hkn fun x ad pa pn pc qa qn qc hx had => ?_
    refine T_seq (T_reg rfl ?_)
    refine V_q (q_mov rfl rfl) rfl rfl ?_
    refine V_q (q_iaE rfl Try.underlying43 ty41 rfl rfl (by omega) (by assumption)) rfl rfl ?_
    refine V_q (q_ldRA rfl ty41 rfl rfl (by repeat (first | with_reducible exact In.head | apply In.tail))) rfl rfl ?_
    refine V_l (l_alloc (cs := [.int .i64 0, .int .i64 0, .int .i64 0, .slice none 0 0, .slice none 0 0]) rfl tz41 rfl) rfl rfl ?_; rintro g6 -
    refine V_q (q_asg rfl rfl) rfl rfl ?_
    refine V_n (l_st rfl ty41 rfl rfl rfl rfl rfl (by repeat (first | with_reducible exact Put.head | apply Put.tail)) (by repeat (first | exact PutL.z | apply PutL.s | apply PutL.t))) rfl rfl ?_; rintro ⟨⟩ -
    refine V_next (fun _ => rfl) ?_
    refine T_seq (T_reg rfl ?_)
    refine V_q (q_fa rfl fd41_0 rfl) rfl rfl ?_
    refine V_q (q_ld rfl ty3 rfl (by repeat (first | with_reducible exact Sel.head | apply Sel.tail)) rfl) rfl rfl ?_
    refine V_q (q_fa rfl fd24_1 rfl) rfl rfl ?_
    refine V_q (q_ld rfl ty3 rfl (by repeat (first | with_reducible exact Sel.head | apply Sel.tail)) rfl) rfl rfl ?_
    refine V_q (q_eq rfl rfl rfl) rfl rfl ?_
    refine V_q (q_mov rfl rfl) rfl rfl ?_
    by_cases e1 : x.fr = fr
    rotate_left
    · rw [decide_eq_false e1]
      refine V_skip rfl rfl ?_
      refine V_skip rfl rfl ?_
      refine V_skip rfl rfl ?_
      refine V_skip rfl rfl ?_
      refine V_skip rfl rfl ?_
      refine V_q (q_pick rfl rfl rfl rfl) rfl rfl ?_
      refine V_q (q_mov rfl rfl) rfl rfl ?_
      refine V_skip rfl rfl ?_
      refine V_skip rfl rfl ?_
      refine V_skip rfl rfl ?_
      refine V_skip rfl rfl ?_
      refine V_skip rfl rfl ?_
      refine V_q (q_pick rfl rfl rfl rfl) rfl rfl ?_
      refine V_next (fun _ => rfl) ?_
      refine T_cond rfl (fun hb => ?_) (fun hb => ?_)
      · cases hb
      · exact T_skip fun w h => ⟨(), fun y hy => by rw [hx] at hy; injection hy with hy; subst hy; simp [mt, e1], ⟨rfl, rfl, rfl, rfl, trivial⟩, h.weak (by simp) (by simp)⟩
    rw [decide_eq_true e1]
    refine V_want (q_fa rfl fd41_1 rfl) rfl rfl ?_
    refine V_want (q_ld rfl ty3 rfl (by repeat (first | with_reducible exact Sel.head | apply Sel.tail)) rfl) rfl rfl ?_
    refine V_want (q_fa rfl fd24_2 rfl) rfl rfl ?_
    refine V_want (q_ld rfl ty3 rfl (by repeat (first | with_reducible exact Sel.head | apply Sel.tail)) rfl) rfl rfl ?_
    refine V_want (q_eq rfl rfl rfl) rfl rfl ?_
    refine V_q (q_pick rfl rfl rfl rfl) rfl rfl ?_
    refine V_q (q_mov rfl rfl) rfl rfl ?_
    by_cases e2 : x.to = to
    rotate_left
    · rw [decide_eq_false e2]
      refine V_skip rfl rfl ?_
      refine V_skip rfl rfl ?_
      refine V_skip rfl rfl ?_
      refine V_skip rfl rfl ?_
      refine V_skip rfl rfl ?_
      refine V_q (q_pick rfl rfl rfl rfl) rfl rfl ?_
      refine V_next (fun _ => rfl) ?_
      refine T_cond rfl (fun hb => ?_) (fun hb => ?_)
      · cases hb
      · exact T_skip fun w h => ⟨(), fun y hy => by rw [hx] at hy; injection hy with hy; subst hy; simp [mt, e2], ⟨rfl, rfl, rfl, rfl, trivial⟩, h.weak (by simp) (by simp)⟩
    rw [decide_eq_true e2]
    refine V_want (q_fa rfl fd41_2 rfl) rfl rfl ?_
    refine V_want (q_ld rfl ty3 rfl (by repeat (first | with_reducible exact Sel.head | apply Sel.tail)) rfl) rfl rfl ?_
    refine V_want (q_fa rfl fd24_3 rfl) rfl rfl ?_
    refine V_want (q_ld rfl ty3 rfl (by repeat (first | with_reducible exact Sel.head | apply Sel.tail)) rfl) rfl rfl ?_
    refine V_want (q_eq rfl rfl rfl) rfl rfl ?_
    refine V_q (q_pick rfl rfl rfl rfl) rfl rfl ?_
    refine V_next (fun _ => rfl) ?_
    refine T_cond rfl (fun hb => ?_) (fun hb => ?_)
    · refine T_seq (T_reg rfl ?_)
      refine V_q (q_mov rfl rfl) rfl rfl ?_
      refine V_q (q_asg rfl rfl) rfl rfl ?_
      refine V_next (fun _ => rfl) ?_
      have e3 : x.tag = tag := by simpa using hb
      exact T_ret fun w h => ⟨_, res_1 rfl, (), trivial, by rw [fnd_some hx (by simp [mt, e1, e2, e3]) hkk], h.weak (List.nil_sublist _) (by simp)⟩
    · have e3 : ¬ x.tag = tag := by simpa using hb
      exact T_skip fun w h => ⟨(), fun y hy => by rw [hx] at hy; injection hy with hy; subst hy; simp [mt, e3], ⟨rfl, rfl, rfl, rfl, trivial⟩, h.weak (by simp) (by simp)⟩
  intro _ hno
  refine T_reg rfl ?_
  refine V_q (q_addI rfl rfl rfl (by omega)) rfl rfl ?_
  refine V_q (q_mov rfl rfl) rfl rfl ?_
  refine V_nil ?_
  intro w h
  refine ⟨k + 1, ⟨by omega, by omega, fun j y hj hy => ?_⟩, ⟨rfl, rfl, rfl, rfl, trivial⟩, h⟩
  by_cases e : j = k
  · subst e; exact hno y hy
  · exact hkk j y (by omega) hy

def later (x y : Msg) : Bool := if x.fr = y.fr then (if x.to = y.to then decide (y.tag < x.tag) else decide (y.to < x.to)) else decide (y.fr < x.fr)

theorem c_later (x y : Msg) (a b a' b' : Option Addr) (n c m d n' c' m' d' : Nat) : Con Try.prog 27
    #[.agg #[.int .i64 x.fr, .int .i64 x.to, .int .i64 x.tag, .slice a n c, .slice b m d], .agg #[.int .i64 y.fr, .int .i64 y.to, .int .i64 y.tag, .slice a' n' c', .slice b' m' d']] [] []
    (fun _ : Unit => True) (fun _ => .bool (later x y)) (fun _ => []) (fun _ => []) := by
  refine con_of (n := 30) Try.func27 rfl rfl rfl (by simp) ?_
  intro C hC
  refine T_seq (T_reg rfl ?_)
  refine V_l (l_boxA rfl rfl) rfl rfl ?_; rintro g2 -
  refine V_l (l_boxA rfl rfl) rfl rfl ?_; rintro g3 -
  refine V_q (q_asg rfl rfl) rfl rfl ?_
  refine V_next (fun _ => rfl) ?_
  refine T_seq ?_
  refine T_seq (T_reg rfl ?_)
  refine V_q (q_fa rfl fd41_0 rfl) rfl rfl ?_
  refine V_q (q_ld rfl ty3 rfl (by repeat (first | with_reducible exact Sel.head | apply Sel.tail)) rfl) rfl rfl ?_
  refine V_q (q_fa rfl fd41_0 rfl) rfl rfl ?_
  refine V_q (q_ld rfl ty3 rfl (by repeat (first | with_reducible exact Sel.head | apply Sel.tail)) rfl) rfl rfl ?_
  refine V_q (q_ne rfl rfl rfl) rfl rfl ?_
  refine V_next (fun _ => rfl) ?_
  refine T_cond rfl (fun hb => ?_) (fun hb => ?_)
  · refine T_seq (T_reg rfl ?_)
    refine V_q (q_fa rfl fd41_0 rfl) rfl rfl ?_
    refine V_q (q_ld rfl ty3 rfl (by repeat (first | with_reducible exact Sel.head | apply Sel.tail)) rfl) rfl rfl ?_
    refine V_q (q_fa rfl fd41_0 rfl) rfl rfl ?_
    refine V_q (q_ld rfl ty3 rfl (by repeat (first | with_reducible exact Sel.head | apply Sel.tail)) rfl) rfl rfl ?_
    refine V_q (q_gt rfl rfl rfl) rfl rfl ?_
    refine V_q (q_asg rfl rfl) rfl rfl ?_
    refine V_next (fun _ => rfl) ?_
    have hb' : ¬ x.fr = y.fr := by simpa using hb
    exact T_ret fun w h => ⟨_, res_1 rfl, (), trivial, by simp [later, hb'], h.weak (List.nil_sublist _) (by simp)⟩
  have e1 : x.fr = y.fr := by simpa using hb
  refine T_skip_next (fun _ => rfl) ?_
  refine T_seq ?_
  refine T_seq (T_reg rfl ?_)
  refine V_q (q_fa rfl fd41_1 rfl) rfl rfl ?_
  refine V_q (q_ld rfl ty3 rfl (by repeat (first | with_reducible exact Sel.head | apply Sel.tail)) rfl) rfl rfl ?_
  refine V_q (q_fa rfl fd41_1 rfl) rfl rfl ?_
  refine V_q (q_ld rfl ty3 rfl (by repeat (first | with_reducible exact Sel.head | apply Sel.tail)) rfl) rfl rfl ?_
  refine V_q (q_ne rfl rfl rfl) rfl rfl ?_
  refine V_next (fun _ => rfl) ?_
  refine T_cond rfl (fun hb => ?_) (fun hb => ?_)
  · refine T_seq (T_reg rfl ?_)
    refine V_q (q_fa rfl fd41_1 rfl) rfl rfl ?_
    refine V_q (q_ld rfl ty3 rfl (by repeat (first | with_reducible exact Sel.head | apply Sel.tail)) rfl) rfl rfl ?_
    refine V_q (q_fa rfl fd41_1 rfl) rfl rfl ?_
    refine V_q (q_ld rfl ty3 rfl (by repeat (first | with_reducible exact Sel.head | apply Sel.tail)) rfl) rfl rfl ?_
    refine V_q (q_gt rfl rfl rfl) rfl rfl ?_
    refine V_q (q_asg rfl rfl) rfl rfl ?_
    refine V_next (fun _ => rfl) ?_
    have hb' : ¬ x.to = y.to := by simpa using hb
    exact T_ret fun w h => ⟨_, res_1 rfl, (), trivial, by simp [later, e1, hb'], h.weak (List.nil_sublist _) (by simp)⟩
  have e2 : x.to = y.to := by simpa using hb
  refine T_skip_next (fun _ => rfl) ?_
  refine T_seq (T_reg rfl ?_)
  refine V_q (q_fa rfl fd41_2 rfl) rfl rfl ?_
  refine V_q (q_ld rfl ty3 rfl (by repeat (first | with_reducible exact Sel.head | apply Sel.tail)) rfl) rfl rfl ?_
  refine V_q (q_fa rfl fd41_2 rfl) rfl rfl ?_
  refine V_q (q_ld rfl ty3 rfl (by repeat (first | with_reducible exact Sel.head | apply Sel.tail)) rfl) rfl rfl ?_
  refine V_q (q_gt rfl rfl rfl) rfl rfl ?_
  refine V_q (q_asg rfl rfl) rfl rfl ?_
  refine V_next (fun _ => rfl) ?_
  exact T_ret fun w h => ⟨_, res_1 rfl, (), trivial, by simp [later, e1, e2], h.weak (List.nil_sublist _) (by simp)⟩
end Go.Proofs.Ytgbhegmhbeekpaa
