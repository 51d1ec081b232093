/-
  Programs that are put together one behind the other may be, and pair.
-/
import Derived.Test.YtgbhegmhbeekpaaGreatN2
namespace Go.Proofs.YtgbhegmhbeekpaaGreat
open Go
set_option linter.unusedVariables false


/-! ### Instructions that may be -/
def NdZ (x : Nd) : Prop := x.op = 0 ∧ x.inn = [] ∧ x.sh = [] ∧ x.a = [] ∧ x.n = 0 ∧ x.how = 0 ∧ x.note = ByteArray.empty
/-- it has just what its kind asks for -/
def ShI (i : Inst) : Prop :=
  (i.kind = 1 ∧ i.inn = [] ∧ NdZ i.node ∧ i.dev = 0 ∧ i.tag = 0) ∨
  (i.kind = 2 ∧ i.n = 0 ∧ i.dev = 0 ∧ i.tag = 0) ∨
  (i.kind = 3 ∧ i.inn.length = 1 ∧ i.out = 0 ∧ NdZ i.node ∧ i.n = 0) ∨
  (i.kind = 4 ∧ i.inn = [] ∧ NdZ i.node ∧ i.n = 0)
/-- all that it names is there; q: those ahead of it -/
structure PlI (n : Nat) (q : List Inst) (i : Inst) : Prop where
  ins : ∀ r ∈ i.inn, ∃ x ∈ q, x.kind ≠ 3 ∧ x.out = r
  new : i.kind ≠ 3 → ∀ x ∈ q, x.kind ≠ 3 → x.out ≠ i.out
  out : i.kind ≠ 3 → 0 ≤ i.out ∧ i.out ≤ 65536
  dev : 0 ≤ i.dev ∧ i.dev < n
  num : 0 ≤ i.n
  tag : 0 ≤ i.tag ∧ i.tag ≤ 1073741824
def PrOk (n : Nat) (p : List Inst) : Prop := ∀ (j : Nat) (i : Inst), p[j]? = some i → ShI i ∧ PlI n (p.take j) i

section
variable {ev : EvF} {n : Nat} {G : Nat → List Tn} {es : List EvT}

theorem OkEv.out {a : List EvT} {e : EvT} (h : OkEv ev n G a e) (hk : e.i.kind ≠ 3) : e.i.out = ((valE a e.d).length : Int) := by
  cases h <;> first | assumption | (exfalso; omega)
/-- the registers that are written are 0, 1, and so on -/
theorem Good.outs (hg : Good ev n G es) (d : Nat) : ∀ (j : Nat), j ≤ (evd es d).length →
    (∀ x ∈ (evd es d).take j, x.i.kind ≠ 3 → 0 ≤ x.i.out ∧ x.i.out < ((vsE ((evd es d).take j)).length : Int)) ∧
    ∀ r : Nat, r < (vsE ((evd es d).take j)).length → ∃ x ∈ (evd es d).take j, x.i.kind ≠ 3 ∧ x.i.out = r
  | 0, _ => by simp [vsE]
  | j + 1, hj => by
    obtain ⟨h1, h2⟩ := hg.outs d j (by omega)
    obtain ⟨e, he⟩ : ∃ e, (evd es d)[j]? = some e := ⟨_, List.getElem?_eq_getElem (by omega)⟩
    obtain ⟨a, b, q1, q2, q3, q4⟩ := hg.at he
    rw [List.take_add_one, he, Option.toList_some, vsE_snoc]
    have hv : valE a e.d = vsE ((evd es d).take j) := by unfold valE; rw [q3, q2]
    by_cases hk : e.i.kind = 3
    · rw [if_pos hk]
      refine ⟨fun x hx hxk => ?_, fun r hr => ?_⟩
      · rcases List.mem_append.1 hx with hx | hx
        · exact h1 x hx hxk
        · rw [List.mem_singleton.1 hx] at hxk; exact absurd hk hxk
      · obtain ⟨x, hx, q⟩ := h2 r hr
        exact ⟨x, List.mem_append_left _ hx, q⟩
    · rw [if_neg hk, List.length_append]
      have ho := q4.out hk
      rw [hv] at ho
      refine ⟨fun x hx hxk => ?_, fun r hr => ?_⟩
      · rcases List.mem_append.1 hx with hx | hx
        · have := h1 x hx hxk
          simp only [List.length_singleton]; omega
        · rw [List.mem_singleton.1 hx, ho]
          simp only [List.length_singleton]; omega
      · by_cases hr' : r < (vsE ((evd es d).take j)).length
        · obtain ⟨x, hx, q⟩ := h2 r hr'
          exact ⟨x, List.mem_append_left _ hx, q⟩
        · simp only [List.length_singleton] at hr
          exact ⟨e, by simp, hk, by rw [ho]; omega⟩

/-- programs of events may be -/
theorem Good.prOk (hg : Good ev n G es) (hs : ∀ e ∈ es, ShI e.i) (hl : es.length ≤ 65536) (ht : ∀ e ∈ es, e.i.kind = 3 → 0 ≤ e.i.tag ∧ e.i.tag ≤ 1073741824) (d : Nat) : PrOk n (progE es d) := by
  intro j i hi
  unfold progE at hi ⊢
  rw [List.getElem?_map, Option.map_eq_some_iff] at hi
  obtain ⟨e, he, rfl⟩ := hi
  obtain ⟨a, b, q1, q2, q3, q4⟩ := hg.at he
  have hm : e ∈ es := by rw [q1]; simp
  have hv : valE a e.d = vsE ((evd es d).take j) := by unfold valE; rw [q3, q2]
  have hj : j < (evd es d).length := (List.getElem?_eq_some_iff.1 he).1
  obtain ⟨h1, h2⟩ := hg.outs d j (by omega)
  have hvl : (vsE ((evd es d).take j)).length ≤ 65536 := by
    have e1 : (vsE ((evd es d).take j)).length ≤ ((evd es d).take j).length := by
      unfold vsE; rw [List.length_map]; exact List.length_filter_le _ _
    have e2 : (evd es d).length ≤ es.length := List.length_filter_le _ _
    rw [List.length_take] at e1
    omega
  have hin : ∀ r : Int, 0 ≤ r → r.toNat < (vsE ((evd es d).take j)).length → ∃ x ∈ (List.map (fun x => x.i) (evd es d)).take j, x.kind ≠ 3 ∧ x.out = r := by
    intro r h0 hr
    obtain ⟨x, hx, hk, ho⟩ := h2 r.toNat hr
    rw [← List.map_take]
    exact ⟨x.i, List.mem_map_of_mem hx, hk, by rw [ho]; omega⟩
  have hsh := hs e hm
  refine ⟨hsh, ?_, ?_, ?_, ?_, ?_, ?_⟩
  · intro r hr
    cases q4 with
    | take hd hk hn hv' ho => rcases hsh with h | h | h | h <;> first | (exfalso; omega) | (rw [h.2.1] at hr; cases hr)
    | work hd hk hr' hv' ho =>
      have := hr' r hr
      rw [hv] at this
      exact hin r this.1 this.2
    | send hd hk x hi hv' h0 h1 ht' =>
      rw [hi] at hr
      have := List.mem_singleton.1 hr
      subst this
      rw [hv] at hv'
      exact hin _ (by omega) (by have := (List.getElem?_eq_some_iff.1 hv').1; simpa using this)
    | recv hd hk ho s hs' sk sd se st sv ht' => rcases hsh with h | h | h | h <;> first | (exfalso; omega) | (rw [h.2.1] at hr; cases hr)
  · intro hk x hx hxk
    rw [← List.map_take] at hx
    obtain ⟨y, hy, rfl⟩ := List.mem_map.1 hx
    have h3 := h1 y hy hxk
    have ho := q4.out hk
    rw [hv] at ho
    omega
  · intro hk
    have ho := q4.out hk
    rw [hv] at ho
    omega
  · cases q4 with
    | take hd hk hn hv' ho => rcases hsh with h | h | h | h <;> omega
    | work hd hk hr' hv' ho => rcases hsh with h | h | h | h <;> omega
    | send hd hk x hi hv' h0 h1 ht' => exact ⟨h0, h1⟩
    | recv hd hk ho s hs' sk sd se st sv ht' =>
      have hs2 : s ∈ es := by rw [q1]; exact List.mem_append_left _ hs'
      have := hg.lt hs2
      omega
  · cases q4 with
    | take hd hk hn hv' ho => exact hn
    | work hd hk hr' hv' ho => rcases hsh with h | h | h | h <;> omega
    | send hd hk x hi hv' h0 h1 ht' => rcases hsh with h | h | h | h <;> omega
    | recv hd hk ho s hs' sk sd se st sv ht' => rcases hsh with h | h | h | h <;> omega
  · cases q4 with
    | take hd hk hn hv' ho => rcases hsh with h | h | h | h <;> omega
    | work hd hk hr' hv' ho => rcases hsh with h | h | h | h <;> omega
    | send hd hk x hi hv' h0 h1 ht' => exact ht e hm hk
    | recv hd hk ho s hs' sk sd se st sv ht' =>
      have hs2 : s ∈ es := by rw [q1]; exact List.mem_append_left _ hs'
      have := ht s hs2 sk
      omega
end

/-! ### A maker that puts programs together -/
structure MkS where
  es : List EvT
  W : List EvT
  tag : Int
  given : List (List Tn)
def Gf (g : List (List Tn)) : Nat → List Tn := fun d => g.getD d []
/-- a tensor that may be, of one way -/
def T1 (t : Tn) : Prop := ∃ k : Nat, 1 ≤ k ∧ k ≤ 3 ∧ t.sh = [(k : Int)] ∧ t.da.length = k

structure KInv (ev : EvF) (n : Nat) (s : MkS) : Prop where
  good : Good ev n (Gf s.given) s.es
  glen : s.given.length = n
  gt : ∀ l ∈ s.given, ∀ t ∈ l, T1 t
  gb : ∀ l ∈ s.given, l.length ≤ s.es.length
  w1 : ∀ x ∈ s.W, x ∈ s.es ∧ x.i.kind = 3 ∧ ∀ r ∈ s.es, r.i.kind = 4 → r.i.tag ≠ x.i.tag
  w2 : ∀ x ∈ s.es, x.i.kind = 3 → x ∈ s.W ∨ ∃ r ∈ s.es, r.i.kind = 4 ∧ r.i.tag = x.i.tag
  w3 : cnt 3 s.es = cnt 4 s.es + s.W.length
  w4 : (s.W.map fun x => x.i.tag).Nodup
  tags : ∀ x ∈ s.es, x.i.kind = 3 → 0 ≤ x.i.tag ∧ x.i.tag < s.tag
  tb : 0 ≤ s.tag ∧ s.tag ≤ 3 * s.es.length
  t1 : ∀ x ∈ s.es, T1 x.v
  shp : ∀ x ∈ s.es, ShI x.i

theorem Gf_set {g : List (List Tn)} {d : Nat} {l : List Tn} (hd : d < g.length) (y : Nat) : Gf (g.set d l) y = if y = d then l else Gf g y := by
  unfold Gf
  by_cases e : y = d
  · subst e; simp [List.getD_eq_getElem?_getD, List.getElem?_set_self hd]
  · rw [if_neg e]; simp [List.getD_eq_getElem?_getD, List.getElem?_set_ne (Ne.symm e)]
theorem Gf_grow {g : List (List Tn)} {d : Nat} {x : Tn} (hd : d < g.length) (y j : Nat) (v : Tn) (h : (Gf g y)[j]? = some v) : (Gf (g.set d (Gf g d ++ [x])) y)[j]? = some v := by
  rw [Gf_set hd]
  by_cases e : y = d
  · subst e
    rw [if_pos rfl, List.getElem?_append_left (List.getElem?_eq_some_iff.1 h).1]; exact h
  · rw [if_neg e]; exact h

section
variable {ev : EvF} {n : Nat} {s : MkS}
theorem KInv.init (ev : EvF) (n : Nat) : KInv ev n ⟨[], [], 0, List.replicate n []⟩ :=
  ⟨.nil, by simp, by intro l hl t ht; rw [(List.mem_replicate.1 hl).2] at ht; simp at ht, (by intro l hl; rw [(List.mem_replicate.1 hl).2]; simp), by simp, by simp, rfl, by simp, by simp, by simp, by simp, by simp⟩

theorem cnt_sn (k : Int) (l : List EvT) (e : EvT) : cnt k (l ++ [e]) = cnt k l + if e.i.kind = k then 1 else 0 := cnt_snoc k l e

/-- neither sent nor received -/
theorem KInv.plain (h : KInv ev n s) {e : EvT} {g : List (List Tn)} (hk : e.i.kind = 1 ∨ e.i.kind = 2) (he : OkEv ev n (Gf g) s.es e) (hg : ∀ (d j : Nat) (v : Tn), (Gf s.given d)[j]? = some v → (Gf g d)[j]? = some v) (hl : g.length = n) (hgt : ∀ l ∈ g, ∀ t ∈ l, T1 t) (hgb : ∀ l ∈ g, l.length ≤ s.es.length + 1)
    (hv : T1 e.v) (hs : ShI e.i) : KInv ev n ⟨s.es ++ [e], s.W, s.tag, g⟩ := by
  refine ⟨.snoc (h.good.mono hg) he, hl, hgt, (fun l hl => by show l.length ≤ (s.es ++ [e]).length; rw [List.length_append]; exact hgb l hl), ?_, ?_, ?_, h.w4, ?_, ?_, ?_, ?_⟩
  · intro x hx
    obtain ⟨h1, h2, h3⟩ := h.w1 x hx
    refine ⟨List.mem_append_left _ h1, h2, fun r hr hrk => ?_⟩
    rcases List.mem_append.1 hr with hr | hr
    · exact h3 r hr hrk
    · rw [List.mem_singleton.1 hr] at hrk; omega
  · intro x hx hxk
    rcases List.mem_append.1 hx with hx | hx
    · rcases h.w2 x hx hxk with h1 | ⟨r, hr, q⟩
      · exact .inl h1
      · exact .inr ⟨r, List.mem_append_left _ hr, q⟩
    · rw [List.mem_singleton.1 hx] at hxk; omega
  · have := h.w3
    show cnt 3 (s.es ++ [e]) = cnt 4 (s.es ++ [e]) + s.W.length
    rw [cnt_snoc, cnt_snoc, if_neg (by omega), if_neg (by omega)]
    omega
  · intro x hx hxk
    rcases List.mem_append.1 hx with hx | hx
    · exact h.tags x hx hxk
    · rw [List.mem_singleton.1 hx] at hxk; omega
  · have := h.tb
    refine ⟨this.1, ?_⟩
    show s.tag ≤ 3 * ((s.es ++ [e]).length : Int)
    rw [List.length_append]
    simp only [List.length_singleton]
    omega
  · intro x hx
    rcases List.mem_append.1 hx with hx | hx
    · exact h.t1 x hx
    · rw [List.mem_singleton.1 hx]; exact hv
  · intro x hx
    rcases List.mem_append.1 hx with hx | hx
    · exact h.shp x hx
    · rw [List.mem_singleton.1 hx]; exact hs

theorem KInv.sent (h : KInv ev n s) {e : EvT} {tg : Int} (hk : e.i.kind = 3) (he : OkEv ev n (Gf s.given) s.es e) (ht : e.i.tag = s.tag) (h1 : s.tag < tg) (h3 : tg ≤ s.tag + 3) (hv : T1 e.v) (hs : ShI e.i) :
    KInv ev n ⟨s.es ++ [e], s.W ++ [e], tg, s.given⟩ := by
  have hb := h.tb
  refine ⟨.snoc h.good he, h.glen, h.gt, (fun l hl => by show l.length ≤ (s.es ++ [e]).length; rw [List.length_append]; exact Nat.le_trans (h.gb l hl) (Nat.le_add_right _ _)), ?_, ?_, ?_, ?_, ?_, ?_, ?_, ?_⟩
  · intro x hx
    rcases List.mem_append.1 hx with hx | hx
    · obtain ⟨h1, h2, h3⟩ := h.w1 x hx
      refine ⟨List.mem_append_left _ h1, h2, fun r hr hrk => ?_⟩
      rcases List.mem_append.1 hr with hr | hr
      · exact h3 r hr hrk
      · rw [List.mem_singleton.1 hr] at hrk; omega
    · have := List.mem_singleton.1 hx
      subst this
      refine ⟨by simp, hk, fun r hr hrk => ?_⟩
      rcases List.mem_append.1 hr with hr | hr
      · -- a recv's tag is a send's tag
        obtain ⟨a, b, q⟩ := List.append_of_mem hr
        have hok := h.good.split a r b q
        cases hok with
        | take _ hk' => omega
        | work _ hk' => omega
        | send _ hk' => omega
        | recv _ _ ho s' hs' sk sd se st sv ht' =>
          have := h.tags s' (by rw [q]; exact List.mem_append_left _ hs') sk
          omega
      · rw [List.mem_singleton.1 hr] at hrk; omega
  · intro x hx hxk
    rcases List.mem_append.1 hx with hx | hx
    · rcases h.w2 x hx hxk with h1 | ⟨r, hr, q⟩
      · exact .inl (List.mem_append_left _ h1)
      · exact .inr ⟨r, List.mem_append_left _ hr, q⟩
    · exact .inl (List.mem_append_right _ hx)
  · have := h.w3
    show cnt 3 (s.es ++ [e]) = cnt 4 (s.es ++ [e]) + (s.W ++ [e]).length
    rw [cnt_snoc, cnt_snoc, if_pos hk, if_neg (by omega), List.length_append]
    simp only [List.length_singleton]
    omega
  · show ((s.W ++ [e]).map fun x => x.i.tag).Nodup
    rw [List.map_append, List.nodup_append]
    refine ⟨h.w4, by simp, fun a ha b hb' hab => ?_⟩
    obtain ⟨x, hx, rfl⟩ := List.mem_map.1 ha
    have hb2 : b = e.i.tag := by simpa using hb'
    have := h.tags x (h.w1 x hx).1 (h.w1 x hx).2.1
    omega
  · intro x hx hxk
    show 0 ≤ x.i.tag ∧ x.i.tag < tg
    rcases List.mem_append.1 hx with hx | hx
    · have := h.tags x hx hxk; omega
    · rw [List.mem_singleton.1 hx, ht]; omega
  · refine ⟨by show 0 ≤ tg; omega, ?_⟩
    show tg ≤ 3 * ((s.es ++ [e]).length : Int)
    rw [List.length_append]
    simp only [List.length_singleton]
    omega
  · intro x hx
    rcases List.mem_append.1 hx with hx | hx
    · exact h.t1 x hx
    · rw [List.mem_singleton.1 hx]; exact hv
  · intro x hx
    rcases List.mem_append.1 hx with hx | hx
    · exact h.shp x hx
    · rw [List.mem_singleton.1 hx]; exact hs

/-- the instruction that receives what was sent -/
def recvI (out : Nat) (x : EvT) : Inst := ⟨4, out, [], ⟨0, [], [], [], 0, 0, ByteArray.empty⟩, 0, x.d, x.i.tag⟩
theorem KInv.recv (h : KInv ev n s) {k : Nat} {x : EvT} (hx : s.W[k]? = some x) :
    KInv ev n ⟨s.es ++ [⟨x.i.dev.toNat, recvI (valE s.es x.i.dev.toNat).length x, x.v⟩], s.W.take k ++ s.W.drop (k + 1), s.tag, s.given⟩ := by
  have hb := h.tb
  have hxm : x ∈ s.W := List.mem_of_getElem? hx
  obtain ⟨x1, x2, x3⟩ := h.w1 x hxm
  have hk := (List.getElem?_eq_some_iff.1 hx).1
  have hsp : s.W = s.W.take k ++ x :: s.W.drop (k + 1) := by
    have := (List.getElem?_eq_some_iff.1 hx).2
    rw [← this, ← List.drop_eq_getElem_cons hk, List.take_append_drop]
  have hsub : ∀ y ∈ s.W.take k ++ s.W.drop (k + 1), y ∈ s.W ∧ y.i.tag ≠ x.i.tag := by
    intro y hy
    have h4 := h.w4
    rw [hsp, List.map_append, List.map_cons, List.nodup_append] at h4
    obtain ⟨_, n2, n3⟩ := h4
    rw [List.nodup_cons] at n2
    rcases List.mem_append.1 hy with hy | hy
    · exact ⟨List.mem_of_mem_take hy, fun e => n3 _ (List.mem_map_of_mem hy) _ (List.mem_cons_self ..) e⟩
    · exact ⟨List.mem_of_mem_drop hy, fun e => n2.1 (e ▸ List.mem_map_of_mem (f := fun x : EvT => x.i.tag) hy)⟩
  obtain ⟨a, b, q⟩ := List.append_of_mem x1
  have hok := h.good.split a x b q
  have hdev : 0 ≤ x.i.dev ∧ x.i.dev < n := by
    cases hok with
    | take _ hk' => omega
    | work _ hk' => omega
    | recv _ hk' => omega
    | send hd hk a hi hv h0 h1 ht => exact ⟨h0, h1⟩
  have hke : (recvI (valE s.es x.i.dev.toNat).length x).kind = 4 := rfl
  refine ⟨.snoc h.good (.recv (by show x.i.dev.toNat < n; omega) rfl rfl x x1 x2 rfl (by show x.i.dev = (x.i.dev.toNat : Int); omega) rfl rfl fun r hr hrk => x3 r hr hrk), h.glen, h.gt, (fun l hl => by show l.length ≤ (s.es ++ [_]).length; rw [List.length_append]; exact Nat.le_trans (h.gb l hl) (Nat.le_add_right _ _)), ?_, ?_, ?_, ?_, ?_, ?_, ?_, ?_⟩
  · intro y hy
    obtain ⟨hy1, hy2⟩ := hsub y hy
    obtain ⟨h1, h2, h3⟩ := h.w1 y hy1
    refine ⟨List.mem_append_left _ h1, h2, fun r hr hrk => ?_⟩
    rcases List.mem_append.1 hr with hr | hr
    · exact h3 r hr hrk
    · rw [List.mem_singleton.1 hr]; exact Ne.symm hy2
  · intro y hy hyk
    rcases List.mem_append.1 hy with hy | hy
    · rcases h.w2 y hy hyk with h1 | ⟨r, hr, q⟩
      · rw [hsp] at h1
        rcases List.mem_append.1 h1 with h1 | h1
        · exact .inl (List.mem_append_left _ h1)
        · rcases List.mem_cons.1 h1 with rfl | h1
          · exact .inr ⟨_, List.mem_append_right _ (List.mem_singleton.2 rfl), rfl, rfl⟩
          · exact .inl (List.mem_append_right _ h1)
      · exact .inr ⟨r, List.mem_append_left _ hr, q⟩
    · rw [List.mem_singleton.1 hy] at hyk; rw [hke] at hyk; omega
  · have := h.w3
    rw [hsp] at this
    show cnt 3 (s.es ++ [_]) = cnt 4 (s.es ++ [_]) + (s.W.take k ++ s.W.drop (k + 1)).length
    rw [cnt_snoc, cnt_snoc, if_neg (by rw [hke]; omega), if_pos hke]
    simp only [List.length_append, List.length_cons] at this ⊢
    omega
  · refine List.Sublist.nodup (List.Sublist.map _ ?_) h.w4
    show (s.W.take k ++ s.W.drop (k + 1)).Sublist s.W
    conv => rhs; rw [hsp]
    exact List.Sublist.append (List.Sublist.refl _) (List.sublist_cons_self _ _)
  · intro y hy hyk
    rcases List.mem_append.1 hy with hy | hy
    · exact h.tags y hy hyk
    · rw [List.mem_singleton.1 hy] at hyk; rw [hke] at hyk; omega
  · refine ⟨hb.1, ?_⟩
    show s.tag ≤ 3 * ((s.es ++ [_]).length : Int)
    rw [List.length_append]
    simp only [List.length_singleton]
    omega
  · intro y hy
    rcases List.mem_append.1 hy with hy | hy
    · exact h.t1 y hy
    · rw [List.mem_singleton.1 hy]; exact h.t1 x x1
  · intro y hy
    rcases List.mem_append.1 hy with hy | hy
    · exact h.shp y hy
    · rw [List.mem_singleton.1 hy]
      exact .inr (.inr (.inr ⟨rfl, rfl, ⟨rfl, rfl, rfl, rfl, rfl, rfl, rfl⟩, rfl⟩))

theorem KInv.full (h : KInv ev n s) (hw : s.W = []) : Full s.es := by
  intro x hx hk
  rcases h.w2 x hx hk with h1 | h1
  · rw [hw] at h1; cases h1
  · exact h1
theorem KInv.vt (h : KInv ev n s) {d : Nat} {t : Tn} (ht : t ∈ valE s.es d) : T1 t := by
  unfold valE vsE at ht
  obtain ⟨e, he, rfl⟩ := List.mem_map.1 ht
  exact h.t1 e (mem_evd.1 (List.mem_filter.1 he).1).1
end

end Go.Proofs.YtgbhegmhbeekpaaGreat
