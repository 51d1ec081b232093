/-
  Rows of rows, and rows that are made.
-/
import Derived.Test.YtgbhegmhbeekpaaGreatFrAll
import Derived.Test.YtgbhegmhbeekpaaGreatFrSet
import Derived.Laws.MakeOwn

namespace Go.Proofs.YtgbhegmhbeekpaaGreat
open Go

section
variable {P : Program} {l : LEnv} {C : Ctx} {own own' rest : List Res} {ats : List Atom} {o : Oper} {x y : Operand} {w : World}

theorem l_make {t e k bytes n : Nat} {ag : Bool} {z : Value} (zs : List Value) {j j' : IntKind} (ho : o.op = .makeSlice t x y) (ht : P.underlying t = some (.slice e)) (hk : Ty P e ag k) (hz : TyZ P e z) (hb : TyB P e bytes) (hzk : z.cells.toList = zs) (hzl : zs.length = k)
    (hx : opv l x = some (.int j n)) (hy : opv l y = some (.int j' n)) (hn : bytes * n ≤ 281474976710656) (h63 : n ≤ maxLen) :
    Lo P o l C own ats (fun _ : Nat => True) (fun g => .slice (some ⟨g, 0, none⟩) n n) (fun g => rBlk g e (zerosL zs n) :: own) (fun _ => ats) := by
  intro w hw ρ hρ
  obtain ⟨i, hi⟩ : ∃ i, P.info? e = some i := by
    cases h : P.info? e with
    | none => have := hk.size; simp [h] at this
    | some i => exact ⟨i, rfl⟩
  have e1 : i.size = k := by have := hk.size; simpa [hi] using this
  have e2 : i.zero = some z := by unfold TyZ at hz; simpa [hi] using hz
  have e3 : i.bytes = bytes := by unfold TyB at hb; simpa [hi] using hb
  have h63' : (n : Int) ≤ 9223372036854775807 := by unfold maxLen at h63; omega
  have hr := run_make (P := P) w t e i z ht hi e2 j j' n n (by omega) (Int.le_refl _) (by rw [e3]; have : ((bytes * n : Nat) : Int) ≤ 281474976710656 := by omega
                                                                                          rwa [Int.natCast_mul] at this) h63'
  have hsz : z.cells.size = i.size := by rw [e1, ← hzl, ← hzk]; simp
  have hm : madeCells z.cells (n * i.size) = (zerosL zs n).toArray := by
    apply Array.toList_inj.1
    unfold madeCells
    rw [← hsz, zeros_eq, hzk]
  simp only [Int.toNat_natCast, hm] at hr
  simp only [execOp, ho, hρ x _ hx, hρ y _ hy, upE]
  simp only [Sem.run_bind, hr, Result.andThen_ok, Sem.run_pure]
  refine ⟨w.heap.size, trivial, rfl, ?_⟩
  refine hw.new (Kept.alloc [] w _) ?_ (by simp [rBlk]) (fun b hb => by rw [List.mem_singleton.1 hb]; exact Nat.le_refl _)
  show (w.alloc _).heap[w.heap.size]? = _
  rw [heap_alloc_new]
end

theorem zerosL_one (v : Value) : ∀ n, zerosL [v] n = List.replicate n v
  | 0 => rfl
  | n + 1 => by rw [zerosL, zerosL_one v n, List.replicate_succ]; rfl

/-! rows of rows -/
abbrev RowT := Value × Nat × List Value
abbrev rRow (e k : Nat) (p : RowT) : Res := rOwn e k p.1 p.2.1 p.2.2
def EvsP {α : Type} (R : Rep α) (M : List Nat) (w : World) (xss : List (List α)) (L : List RowT) : Prop :=
  L.length = xss.length ∧ ∀ (i : Nat) (xs : List α) (p : RowT), xss[i]? = some xs → L[i]? = some p → EvP R M w xs p.2.2 ∧ p.2.1 = xs.length
def aEvs {α : Type} (R : Rep α) (xss : List (List α)) (L : List RowT) : Atom :=
  ⟨fun M w => EvsP R M w xss L, fun h k hM => ⟨h.1, fun i xs p h1 h2 => ⟨(aEv R xs p.2.2).mov (h.2 i xs p h1 h2).1 k hM, (h.2 i xs p h1 h2).2⟩⟩⟩

theorem split_at {α : Type} {L : List α} {i : Nat} {p : α} (h : L[i]? = some p) : L = L.take i ++ p :: L.drop (i + 1) := by
  obtain ⟨h1, h2⟩ := List.getElem?_eq_some_iff.1 h
  rw [← h2, ← List.drop_eq_getElem_cons h1, List.take_append_drop]
theorem set_at {α : Type} {L : List α} {i : Nat} {p : α} (h : i < L.length) : L.set i p = L.take i ++ p :: L.drop (i + 1) := by
  rw [List.set_eq_take_append_cons_drop, if_pos h]

section
variable {C : Ctx} {own own' rest : List Res} {ats : List Atom} {w : World} {e k : Nat} {L : List RowT}
/-- a row is taken out of the rows -/
theorem St.rowOut (h : St C own ats w) (hs : Sel own (rAll (L.map (rRow e k))) rest) {i : Nat} {p : RowT} (hp : L[i]? = some p) :
    St C (rOwn e k p.1 p.2.1 p.2.2 :: rAll ((L.take i ++ L.drop (i + 1)).map (rRow e k)) :: rest) ats w := by
  have e1 : L.map (rRow e k) = (L.take i).map (rRow e k) ++ rRow e k p :: (L.drop (i + 1)).map (rRow e k) := by
    conv => lhs; rw [split_at hp]
    rw [List.map_append, List.map_cons]
  rw [e1] at hs
  rw [List.map_append]
  exact h.out hs
/-- it is put back, as another one -/
theorem St.rowBack (h : St C own ats w) {i n : Nat} {v : Value} {cs : List Value} (hi : i < L.length) (hp : Pick own [rOwn e k v n cs, rAll ((L.take i ++ L.drop (i + 1)).map (rRow e k))] rest) :
    St C (rAll ((L.set i (v, n, cs)).map (rRow e k)) :: rest) ats w := by
  have e1 : (L.set i (v, n, cs)).map (rRow e k) = (L.take i).map (rRow e k) ++ rOwn e k v n cs :: (L.drop (i + 1)).map (rRow e k) := by
    rw [set_at hi, List.map_append, List.map_cons]
  rw [e1]
  rw [List.map_append] at hp
  exact h.back hp
theorem EvsP.get {α : Type} {R : Rep α} {M : List Nat} {xss : List (List α)} (h : EvsP R M w xss L) {i : Nat} (hi : i < xss.length) : ∃ xs v cs, xss[i]? = some xs ∧ L[i]? = some (v, xs.length, cs) ∧ EvP R M w xs cs := by
  have h1 : i < L.length := by rw [h.1]; exact hi
  obtain ⟨h2, h3⟩ := h.2 i xss[i] L[i] (List.getElem?_eq_getElem hi) (List.getElem?_eq_getElem h1)
  refine ⟨xss[i], L[i].1, L[i].2.2, List.getElem?_eq_getElem hi, ?_, h2⟩
  rw [← h3, List.getElem?_eq_getElem h1]
theorem EvsP.set {α : Type} {R : Rep α} {M : List Nat} {xss : List (List α)} (h : EvsP R M w xss L) (i : Nat) {xs : List α} {v : Value} {n : Nat} {cs : List Value} (hn : n = xs.length) (hx : EvP R M w xs cs) : EvsP R M w (xss.set i xs) (L.set i (v, n, cs)) := by
  refine ⟨by simp [h.1], fun j ys p h1 h2 => ?_⟩
  rw [List.getElem?_set] at h1 h2
  by_cases e : i = j
  · subst e
    rw [if_pos rfl] at h1 h2
    split at h1
    · rename_i hl
      rw [if_pos (by rw [h.1]; exact hl)] at h2
      injection h1 with h1; injection h2 with h2
      subst h1; subst h2
      exact ⟨hx, hn⟩
    · cases h1
  · rw [if_neg e] at h1 h2
    exact h.2 j ys p h1 h2
theorem EvsP.empty {α : Type} (R : Rep α) (M : List Nat) (w : World) (n : Nat) : EvsP R M w (List.replicate n []) (List.replicate n (.slice none 0 0, 0, [])) := by
  refine ⟨by simp, fun i xs p h1 h2 => ?_⟩
  rw [List.getElem?_replicate] at h1 h2
  split at h1
  · injection h1 with h1
    rw [if_pos (by assumption)] at h2
    injection h2 with h2
    subst h1; subst h2
    exact ⟨EvP.nil R M w, rfl⟩
  · cases h1
theorem St.rowsNone (h : St C own ats w) (e k n : Nat) : St C (rAll ((List.replicate n ((.slice none 0 0, 0, []) : RowT)).map (rRow e k)) :: own) ats w := by
  refine h.new (Kept.refl _ _) ⟨?_, ?_⟩ ?_ ?_
  · have : bks ((List.replicate n ((.slice none 0 0, 0, []) : RowT)).map (rRow e k)) = [] := by
      apply List.eq_nil_iff_forall_not_mem.2
      intro b hb
      obtain ⟨r, hr, hbr⟩ := mem_bks.1 hb
      obtain ⟨p, hp, rfl⟩ := List.mem_map.1 hr
      rw [(List.mem_replicate.1 hp).2] at hbr
      simp [rOwn, Value.ownBlock] at hbr
    rw [this]; exact List.nodup_nil
  · intro r hr
    obtain ⟨p, hp, rfl⟩ := List.mem_map.1 hr
    rw [(List.mem_replicate.1 hp).2]
    exact World.ownsRow_nil w 0 e k
  · have : bks ((List.replicate n ((.slice none 0 0, 0, []) : RowT)).map (rRow e k)) = [] := by
      apply List.eq_nil_iff_forall_not_mem.2
      intro b hb
      obtain ⟨r, hr, hbr⟩ := mem_bks.1 hb
      obtain ⟨p, hp, rfl⟩ := List.mem_map.1 hr
      rw [(List.mem_replicate.1 hp).2] at hbr
      simp [rOwn, Value.ownBlock] at hbr
    show (bks _).Nodup
    rw [this]; exact List.nodup_nil
  · intro b hb
    obtain ⟨r, hr, hbr⟩ := mem_bks.1 (show b ∈ bks _ from hb)
    obtain ⟨p, hp, rfl⟩ := List.mem_map.1 hr
    rw [(List.mem_replicate.1 hp).2] at hbr
    simp [rOwn, Value.ownBlock] at hbr

/-- rows of rows, left to themselves -/
theorem St.sealR {α : Type} (R : Rep α) {xss : List (List α)} {g t n : Nat} (h : St C own ats w) (hR : R.k = k) (hp : Pick own [rBlk g t (L.map (·.1)), rAll (L.map (rRow e k))] rest) (hk : 0 < k) (he : In (aEvs R xss L) ats) (hn : xss.length = n) (hm : n ≤ maxLen) :
    St C rest (aSl (rSl R) xss (some ⟨g, 0, none⟩) n n :: ats) w := by
  subst hR
  have h0 := h.perm hp.perm
  have h1 : St C rest ats w := h0.weak (List.sublist_append_right _ _) fun A hA => hA
  have hev : EvsP R (C.M ++ bks rest) w xss L := h1.atom he
  have hnd := h0.hp.nd
  rw [bks_append, List.nodup_append] at hnd
  have hout : ∀ b, b ∈ bks [rBlk g t (L.map (·.1)), rAll (L.map (rRow e R.k))] → b ∉ C.M ++ bks rest := by
    intro b hb hc
    rcases List.mem_append.1 hc with hc | hc
    · exact h0.hp.dj b hc (by rw [bks_append]; exact List.mem_append_left _ hb)
    · exact hnd.2.2 b hb b hc rfl
  have hblk : (rBlk g t (L.map (·.1))).p w := h0.hp.has _ (by simp)
  have hall := h0.hp.has (rAll (L.map (rRow e R.k))) (by simp)
  have hg : g ∈ bks [rBlk g t (L.map (·.1)), rAll (L.map (rRow e R.k))] := by simp [bks, rBlk]
  refine h1.know _ ⟨hn.symm, Nat.le_refl _, hm, (fun h => by cases h), fun ad ha h0' => ?_⟩
  injection ha with ha
  subst ha
  refine ⟨hout g hg, (Array.getElem?_eq_some_iff.1 hblk).1, fun i hi => ?_⟩
  obtain ⟨xs, v, cs, q1, q2, q3⟩ := hev.get hi
  have hrow : w.ownsRow 0 e R.k v xs.length cs := hall.2 (rRow e R.k (v, xs.length, cs)) (List.mem_map_of_mem (List.mem_of_getElem? q2))
  obtain ⟨a, c, rfl, q4⟩ := own_seal hk hrow q3 (fun b hb => hout b (by
    refine mem_bks.2 ⟨rAll (L.map (rRow e R.k)), by simp, ?_⟩
    show b ∈ bks _
    refine mem_bks.2 ⟨rRow e R.k (v, xs.length, cs), List.mem_map_of_mem (List.mem_of_getElem? q2), ?_⟩
    simp [rOwn, hb]))
  rw [List.getElem?_eq_getElem hi] at q1
  injection q1 with q1
  refine ⟨[.slice a xs.length c], ⟨a, xs.length, c, rfl, by rw [q1]; exact q4⟩, fun j u hu => ?_⟩
  cases j with
  | succ j => simp at hu
  | zero =>
    have hu' : u = .slice a xs.length c := by simpa using hu.symm
    subst hu'
    have e1 : (⟨g, 0, none⟩ : Addr).add (i * (rSl R).k + 0) = ⟨g, i, none⟩ := by
      rw [addr_add]; simp [rSl]
    rw [e1]
    refine cell_blk hblk ?_
    rw [List.getElem?_map, q2]; rfl
end
section
variable {P : Program} {l : LEnv} {S : World → Prop} {o : Oper} {x y : Operand}
/-- the place of an element of a block of one's own, at a counter -/
theorem q_iaD {t e : TypeId} {g n c k d : Nat} {ag : Bool} {j : IntKind} (ho : o.op = .indexAddr t x y) (ht : P.underlying t = some (.slice e)) (hk : Ty P e ag k) (hx : opv l x = some (.slice (some ⟨g, 0, none⟩) n c)) (hy : opv l y = some (.int j (d : Int))) (h1 : d < n) : Qu P o l S (.pointer (some ⟨g, d * k, none⟩)) := by
  have := q_iaO (S := S) (m := 0) ho ht hk hx hy (by omega) (by omega)
  simpa using this
theorem q_ia1 {t e : TypeId} {g n c d : Nat} {ag : Bool} {j : IntKind} (ho : o.op = .indexAddr t x y) (ht : P.underlying t = some (.slice e)) (hk : Ty P e ag 1) (hx : opv l x = some (.slice (some ⟨g, 0, none⟩) n c)) (hy : opv l y = some (.int j (d : Int))) (h1 : d < n) : Qu P o l S (.pointer (some ⟨g, d, none⟩)) := by
  have := q_iaD (S := S) ho ht hk hx hy h1
  simpa using this
end
theorem nth_row {L : List RowT} {d : Nat} {v : Value} {n : Nat} {cs : List Value} (h : L[d]? = some (v, n, cs)) : nth (L.map (·.1)) d = some v := by
  rw [nth_eq, List.getElem?_map, h]; rfl
theorem set_row (L : List RowT) (d : Nat) (v : Value) (n : Nat) (cs : List Value) : (L.map (·.1)).set d v = (L.set d (v, n, cs)).map (·.1) := by rw [List.map_set]

section
variable {P : Program} {l : LEnv} {C : Ctx} {own : List Res} {ats : List Atom} {o : Oper} {x y : Operand}
/-- append out of a literal: what comes is a slice -/
theorem l_appBs {t e T k bytes n m c g : Nat} {ag : Bool} {z v : Value} {cs news : List Value} {own' : Value → List Res} {rest : List Res} (ho : o.op = .call { callee := .builtin .append, args := #[x, y], argTypes := #[t, t] })
    (ht : P.underlying t = some (.slice e)) (hk : Ty P e ag k) (hz : TyZ P e z) (hb : TyB P e bytes) (hzs : z.cells.size = k) (hk0 : 0 < k) (hx : opv l x = some v) (hy : opv l y = some (.slice (some ⟨g, 0, none⟩) m c))
    (hs : Sel own (rBlk g T news) rest) (hp : ∀ v', Put own (rOwn e k v n cs) (rOwn e k v' (n + m) (cs ++ news)) (own' v')) (hl : news.length = m * k) (h1 : news.all (·.oneCell') = true) (h63 : n + m ≤ maxLen) (hby : (n + m) * bytes ≤ 140737488355328) :
    Lo P o l C own ats (fun _ : Option Addr × Nat => True) (fun y => .slice y.1 (n + m) y.2) (fun y => own' (.slice y.1 (n + m) y.2)) (fun _ => ats) :=
  fun _ hw => (app_at hw ho ht hk hz hb hzs hk0 hx hy hp hl (fun _ => ⟨_, rfl, fun j u hu => by rw [addr_add, Nat.zero_add]; exact cell_blk (hw.res hs) hu⟩) (fun u hu => List.all_eq_true.1 h1 u hu) h63 hby).mono
    fun v' w' h => by
      obtain ⟨rest', _, h3⟩ := (hp v').perms
      have hown : w'.ownsRow 0 e k v' (n + m) (cs ++ news) := h.hp.has _ (h3.mem_iff.2 (List.mem_cons_self ..))
      rcases hown.2 with ⟨rfl, h0⟩ | ⟨g', cap, cur, rfl, _⟩
      · exact ⟨(none, 0), trivial, by rw [h0], by rw [h0]; exact h⟩
      · exact ⟨(_, cap), trivial, rfl, h⟩
end

section
variable {P : Program} {l : LEnv} {C : Ctx} {own : List Res} {ats : List Atom} {o : Oper} {x y : Operand}
/-- append(s, xs...): what comes is a slice -/
theorem l_appSs {α : Type} (R : Rep α) {xs : List α} {t e bytes k n m c : Nat} {ag : Bool} {z v : Value} {cs : List Value} {A : Option Addr} {own' : List Value → Value → List Res} (ho : o.op = .call { callee := .builtin .append, args := #[x, y], argTypes := #[t, t] })
    (ht : P.underlying t = some (.slice e)) (hk : Ty P e ag k) (hz : TyZ P e z) (hb : TyB P e bytes) (hR : R.k = k) (hzs : z.cells.size = k) (hk0 : 0 < k) (hx : opv l x = some v) (hy : opv l y = some (.slice A m c))
    (hs : In (aSl R xs A m c) ats) (hp : ∀ news v', Put own (rOwn e k v n cs) (rOwn e k v' (n + m) (cs ++ news)) (own' news v')) (h63 : n + m ≤ maxLen) (hby : (n + m) * bytes ≤ 140737488355328) :
    Lo P o l C own ats (fun _ : List Value × Option Addr × Nat => True) (fun p => .slice p.2.1 (n + m) p.2.2) (fun p => own' p.1 (.slice p.2.1 (n + m) p.2.2)) (fun p => aEv R xs p.1 :: ats) := by
  subst hR
  intro w hw
  obtain ⟨news, e1, e2, e3⟩ := (show SlP R _ w xs A m c from hw.atom hs).ev
  have hm : m = xs.length := (show SlP R _ w xs A m c from hw.atom hs).1
  have hw' := hw.know (aEv R xs news) e1
  refine (app_at hw' ho ht hk hz hb hzs hk0 hx hy (hp news) (by rw [e1.1, hm]) (fun h0 => e3 (fun h => by subst h; simp at hm; omega)) e2 h63 hby).mono ?_
  intro v' w' h
  obtain ⟨rest', _, h3⟩ := (hp news v').perms
  have hown : w'.ownsRow 0 e R.k v' (n + m) (cs ++ news) := h.hp.has _ (h3.mem_iff.2 (List.mem_cons_self ..))
  rcases hown.2 with ⟨rfl, h0⟩ | ⟨g', cap, cur, rfl, _⟩
  · exact ⟨(news, none, 0), trivial, by rw [h0], by rw [h0]; exact h⟩
  · exact ⟨(news, _, cap), trivial, rfl, h⟩
end

/-! what is known of rows of rows, without taking one out -/
section
variable {C : Ctx} {own rest : List Res} {ats : List Atom} {w : World} {e k : Nat} {L : List RowT} {d n : Nat} {v : Value} {cs : List Value}
theorem St.rowOf (h : St C own ats w) (hs : Sel own (rAll (L.map (rRow e k))) rest) (hp : L[d]? = some (v, n, cs)) : w.ownsRow 0 e k v n cs :=
  (h.res hs).2 (rRow e k (v, n, cs)) (List.mem_map_of_mem (List.mem_of_getElem? hp))
theorem St.rowSlice (h : St C own ats w) (hs : Sel own (rAll (L.map (rRow e k))) rest) (hp : L[d]? = some (v, n, cs)) : ∃ a c, v = .slice a n c := by
  rcases (h.rowOf hs hp).2 with ⟨rfl, rfl⟩ | ⟨g, cap, cur, rfl, _⟩
  · exact ⟨none, 0, rfl⟩
  · exact ⟨_, cap, rfl⟩
theorem St.rowBlk (h : St C own ats w) (hs : Sel own (rAll (L.map (rRow e k))) rest) (hp : L[d]? = some (v, n, cs)) (hn : 0 < n) : ∃ g c, v = .slice (some ⟨g, 0, none⟩) n c := by
  rcases (h.rowOf hs hp).2 with ⟨rfl, rfl⟩ | ⟨g, cap, cur, rfl, _⟩
  · omega
  · exact ⟨g, cap, rfl⟩
theorem row_cell {g c j : Nat} {X : Value} (h : w.ownsRow 0 e k (.slice (some ⟨g, 0, none⟩) n c) n cs) (hj : cs[j]? = some X) : w.cell? ⟨g, j, none⟩ = some X := by
  rcases h.2 with ⟨hv, _⟩ | ⟨g', cap, cur, hv, h1, h2, h3, h4, h5, h6⟩
  · cases hv
  · injection hv with hv1 _ _
    injection hv1 with hv1
    injection hv1 with hg
    subst hg
    rw [cell_of_row w g j cur e (0, 0) h2]
    rw [← h6, List.getElem?_take] at hj
    split at hj
    · simpa using hj
    · cases hj
theorem q_ldRow {P : Program} {l : LEnv} {o : Oper} {x : Operand} {t g c j : Nat} {X : Value} (ho : o.op = .load t x) (ht : Ty P t false 1) (hx : opv l x = some (.pointer (some ⟨g, j, none⟩))) (hs : Sel own (rAll (L.map (rRow e k))) rest)
    (hp : L[d]? = some (.slice (some ⟨g, 0, none⟩) n c, n, cs)) (hj : cs[j]? = some X) : Qu P o l (St C own ats) X := by
  intro w hw ρ hρ
  have hc := row_cell (hw.rowOf hs hp) hj
  simp [execOp, ho, hρ x _ hx, upE, Instr.loadAt, Instr.sureAddr, loadVar, ht.run_agg, hc]
theorem set_same {α : Type} {L : List α} {i : Nat} {p : α} (h : L[i]? = some p) : L.set i p = L := by
  obtain ⟨h1, h2⟩ := List.getElem?_eq_some_iff.1 h
  rw [← h2, List.set_getElem_self]
/-- it is put back as it was -/
theorem St.rowSame (h : St C own ats w) (hp : L[d]? = some (v, n, cs)) (hk : Pick own [rOwn e k v n cs, rAll ((L.take d ++ L.drop (d + 1)).map (rRow e k))] rest) : St C (rAll (L.map (rRow e k)) :: rest) ats w := by
  have := h.rowBack (List.getElem?_eq_some_iff.1 hp).1 hk
  rwa [set_same hp] at this
theorem St.evRow {α : Type} {R : Rep α} {xss : List (List α)} {xs : List α} (h : St C own ats w) (hs : In (aEvs R xss L) ats) (hx : xss[d]? = some xs) (hp : L[d]? = some (v, n, cs)) : St C own (aEv R xs cs :: ats) w :=
  h.know _ ((show EvsP R _ w xss L from h.atom hs).2 d xs _ hx hp).1
end
section
variable {P : Program} {nn : Nat} {l : LEnv} {C : Ctx} {own : List Res} {ats : List Atom} {Q : Exit → LEnv → World → Prop} {cd : Code}
/-- an element of a row of slices -/
theorem T_evSl {α : Type} {R : Rep α} {xs : List (List α)} {cs : List Value} (a : Nat) {x : List α} (hs : In (aEv (rSl R) xs cs) ats) (hx : xs[a]? = some x)
    (h : ∀ b m c, cs[a]? = some (.slice b m c) → m = x.length → T P nn cd l C own (aSl R x b m c :: ats) Q) : T P nn cd l C own ats Q := by
  intro w hw
  obtain ⟨h1, h2⟩ := (show EvP (rSl R) _ w xs cs from hw.atom hs)
  obtain ⟨hl, he⟩ := List.getElem?_eq_some_iff.1 hx
  obtain ⟨b, m, c, h3, h4⟩ := h2 a hl
  have h5 : cs[a]? = some (.slice b m c) := by
    have := congrArg (fun l => l[0]?) h3
    simp only [List.getElem?_take] at this
    have hk : (rSl R).k = 1 := rfl
    rw [hk] at this
    simpa using this
  rw [he] at h4
  exact h b m c h5 h4.1 w (hw.know (aSl R x b m c) h4)
end

end Go.Proofs.YtgbhegmhbeekpaaGreat
