/-
  Maps that the call owns: what lies in them, what lookups, updates, deletes and rounds through them do.
-/
import Derived.Test.YtgbhegmhbeekpaaGreatFrRow
import Derived.Maps.RangeRun
import Derived.ChangeKeysEq
import Derived.WideKeyRuns
import Derived.MapKept

namespace Go.Proofs.YtgbhegmhbeekpaaGreat
open Go

def fndE {K : Type} [DecidableEq K] (k : K) : List K → List MapEntry → Nat → Option (Nat × Value)
  | k' :: ks, e :: es, i => if k = k' then some (i, e.val) else fndE k ks es (i + 1)
  | _, _, _ => none

/-- Keys of a type, written by κ: they may be keys, and one is found where it lies. -/
structure KeyT {K : Type} [DecidableEq K] (P : Program) (kt : TypeId) (κ : K → Value) : Prop where
  chk : ∀ (em : Bool) (w : World) (k : K), (Instr.checkKey em 10000 kt (κ k)).run P w = .ok () w
  fnd : ∀ (w : World) (k : K) (es : List MapEntry) (ks : List K), es.map (·.key) = ks.map κ → (Instr.findKey kt (κ k) es).run P w = .ok (fndE k ks es 0) w
  same : ∀ k, Instr.sameBits 10000 (κ k) (κ k) = true

def κi (q : IntKind) : Int → Value := fun a => .int q a
def κ3 : Int × Int × Int → Value := fun k => .agg #[.int .i64 k.1, .int .i64 k.2.1, .int .i64 k.2.2]

theorem keyT_int {P : Program} {kt : TypeId} {q : IntKind} (h : P.underlying kt = some (.int q)) : KeyT P kt (κi q) where
  chk em w k := by
    show (Instr.checkKey em (9999 + 1) kt (.int q k)).run P w = .ok () w
    rw [Instr.checkKey]
    simp [run_underlying h]
  fnd w k es ks he := by
    have key : ∀ (es : List MapEntry) (ks : List Int) (i : Nat), es.map (·.key) = ks.map (κi q) → Instr.findNow (.int q) (.int q k) es i = some (fndE k ks es i) := by
      intro es
      induction es with
      | nil => intro ks i h; cases ks <;> simp [Instr.findNow, fndE]
      | cons e es ih =>
        intro ks i h
        cases ks with
        | nil => simp at h
        | cons k' ks =>
          simp only [List.map_cons, List.cons.injEq] at h
          have hk : e.key = .int q k' := h.1
          simp only [Instr.findNow, hk, Instr.sameNow, if_true, fndE]
          by_cases e1 : k = k'
          · subst e1; simp
          · have : (k == k') = false := by simpa using e1
            simp only [this, if_neg e1]
            exact ih ks (i + 1) h.2
    simp [Instr.findKey, run_underlying h, κi, key es ks 0 he]
  same k := by simp [κi, Instr.sameBits]

theorem run_part1 {P : Program} {t : TypeId} (h : Ty P t false 1) (w : World) (cs : Array Value) (off : Nat) (v : Value) (hv : cs[off]? = some v) : (part t cs off).run P w = .ok v w := by
  simp [part, h.run_agg, hv]

theorem keyT_3 {P : Program} {kt ti : TypeId} (h : P.underlying kt = some (.array 3 ti)) (hi : P.underlying ti = some (.int .i64)) (ht : Ty P ti false 1) : KeyT P kt κ3 where
  chk em w k := by
    show (Instr.checkKey em (9998 + 1 + 1) kt (.agg _)).run P w = .ok () w
    rw [Instr.checkKey]
    simp only [Sem.run_bind, run_underlying h, Result.andThen_ok]
    simp only [Std.Legacy.Range.forIn_eq_forIn_range', Std.Legacy.Range.size, Nat.sub_zero, Nat.add_one_sub_one, Nat.div_one]
    have e3 : List.range' 0 3 = [0, 1, 2] := by decide
    rw [e3]
    have p0 : (part ti #[.int .i64 k.1, .int .i64 k.2.1, .int .i64 k.2.2] (0 * 1)).run P w = .ok (.int .i64 k.1) w := run_part1 ht w _ _ _ rfl
    have p1 : (part ti #[.int .i64 k.1, .int .i64 k.2.1, .int .i64 k.2.2] (1 * 1)).run P w = .ok (.int .i64 k.2.1) w := run_part1 ht w _ _ _ rfl
    have p2 : (part ti #[.int .i64 k.1, .int .i64 k.2.1, .int .i64 k.2.2] (2 * 1)).run P w = .ok (.int .i64 k.2.2) w := run_part1 ht w _ _ _ rfl
    have c : ∀ a, (Instr.checkKey em (9998 + 1) ti (.int .i64 a)).run P w = .ok () w := fun a => by
      rw [Instr.checkKey]; simp [run_underlying hi]
    simp only [List.forIn_cons, List.forIn_nil, Sem.run_bind, ht.run_size, Result.andThen_ok, p0, p1, p2, c, Sem.run_pure]
  fnd w k es ks he := by
    rw [run_findKey_eq w (by rw [h])]
    have eq : ∀ k' : Int × Int × Int, (Op.equal kt (κ3 k) (κ3 k')).run P w = .ok (decide (k = k')) w := by
      intro k'
      obtain ⟨i, hinf⟩ : ∃ i, P.info? ti = some i := by
        cases hh : P.info? ti with
        | none => have := ht.size; simp [hh] at this
        | some i => exact ⟨i, rfl⟩
      have hc : P.cellsOf ti = 1 := by unfold Program.cellsOf; rw [ht.size]; rfl
      show (Op.equalIn (9998 + 1 + 1) kt (.agg _) (.agg _)).run P w = _
      rw [run_equalIn_array w _ _ _ h hinf, hc]
      have e3 : List.range 3 = [0, 1, 2] := by decide
      rw [e3]
      have pp : ∀ (q : Int × Int × Int), (part ti #[.int .i64 q.1, .int .i64 q.2.1, .int .i64 q.2.2] (0 * 1)).run P w = .ok (.int .i64 q.1) w ∧ (part ti #[.int .i64 q.1, .int .i64 q.2.1, .int .i64 q.2.2] (1 * 1)).run P w = .ok (.int .i64 q.2.1) w ∧ (part ti #[.int .i64 q.1, .int .i64 q.2.1, .int .i64 q.2.2] (2 * 1)).run P w = .ok (.int .i64 q.2.2) w :=
        fun q => ⟨run_part1 ht w _ _ _ rfl, run_part1 ht w _ _ _ rfl, run_part1 ht w _ _ _ rfl⟩
      obtain ⟨p0, p1, p2⟩ := pp k
      obtain ⟨q0, q1, q2⟩ := pp k'
      have ee : ∀ a b : Int, (Op.equalIn (9998 + 1) ti (.int .i64 a) (.int .i64 b)).run P w = .ok (a == b) w := fun a b => by
        rw [Op.equalIn]; simp [run_underlying hi]
      obtain ⟨a, b, c⟩ := k
      obtain ⟨a', b', c'⟩ := k'
      simp only at p0 p1 p2 q0 q1 q2
      simp only [Prod.mk.injEq]
      by_cases e1 : a = a'
      · subst e1
        by_cases e2 : b = b'
        · subst e2
          by_cases e4 : c = c'
          · subst e4
            simp only [Op.eqItems, Sem.run_bind, p0, p1, p2, ee, Result.andThen_ok, Sem.run_pure, beq_self_eq_true, Bool.not_true, Bool.false_eq_true, if_false, and_self, decide_true]
          · have e5 : (c == c') = false := by simpa using e4
            simp only [Op.eqItems, Sem.run_bind, p0, p1, p2, q0, q1, q2, ee, Result.andThen_ok, Sem.run_pure, beq_self_eq_true, Bool.not_true, Bool.false_eq_true, if_false, e5, Bool.not_false, if_true, e4, and_false, decide_false]
        · have e5 : (b == b') = false := by simpa using e2
          simp only [Op.eqItems, Sem.run_bind, p0, p1, q0, q1, ee, Result.andThen_ok, Sem.run_pure, beq_self_eq_true, Bool.not_true, Bool.false_eq_true, if_false, e5, Bool.not_false, if_true, e2, and_false, false_and, decide_false]
      · have e5 : (a == a') = false := by simpa using e1
        simp only [Op.eqItems, Sem.run_bind, p0, q0, ee, Result.andThen_ok, Sem.run_pure, e5, Bool.not_false, if_true, e1, false_and, decide_false]
    have key : ∀ (es : List MapEntry) (ks : List (Int × Int × Int)) (i : Nat), es.map (·.key) = ks.map κ3 → (Instr.findAsking kt (κ3 k) es i).run P w = .ok (fndE k ks es i) w := by
      intro es
      induction es with
      | nil => intro ks i _; cases ks <;> simp [Instr.findAsking, fndE]
      | cons e es ih =>
        intro ks i h
        cases ks with
        | nil => simp at h
        | cons k' ks =>
          simp only [List.map_cons, List.cons.injEq] at h
          rw [Instr.findAsking]
          simp only [Sem.run_bind, h.1, eq k', Result.andThen_ok, fndE]
          by_cases e1 : k = k'
          · simp [e1]
          · simp only [e1, decide_false, Bool.false_eq_true, if_false]
            exact ih ks (i + 1) h.2
    exact key es ks 0 he
  same k := by
    show Instr.sameBits (9999 + 1) (.agg _) (.agg _) = true
    rw [Instr.sameBits]
    simp [Instr.sameBits]

/-! ### What lies in a map -/
section
variable {K : Type}

def mkE (κ : K → Value) (t : (K × Value) × Nat) : MapEntry := { key := κ t.1.1, val := t.1.2, born := t.2 }

structure MapIs (κ : K → Value) (r : Nat) (ents : List (K × Value)) (tr : List ((K × Value) × Nat)) (clock : Nat) (w : World) : Prop where
  are : tr.map (·.1) = ents
  born : (tr.map (·.2)).Nodup
  old : ∀ t ∈ tr, t.2 < clock
  keys : (ents.map (·.1)).Nodup
  heap : w.heap[r]? = some (.map (tr.map (mkE κ)).toArray clock)

def rMap (κ : K → Value) (r : Nat) (ents : List (K × Value)) : Res where
  blks := [r]
  p w := ∃ (tr : List ((K × Value) × Nat)) (clock : Nat), MapIs κ r ents tr clock w
  keep := by
    rintro w w' ⟨tr, clock, h⟩ hs hb
    exact ⟨tr, clock, h.are, h.born, h.old, h.keys, (hb r (List.mem_singleton.2 rfl)).trans h.heap⟩
  lt := by
    rintro w ⟨tr, clock, h⟩ b hb
    have := List.mem_singleton.1 hb
    subst this
    exact (Array.getElem?_eq_some_iff.1 h.heap).1

/-- the map while the code goes round in it: done has come -/
def rRng (κ : K → Value) (it r : Nat) (ents done : List (K × Value)) : Res where
  blks := [it, r]
  p w := ∃ (tr : List ((K × Value) × Nat)) (clock : Nat) (ds : List ((K × Value) × Nat)), MapIs κ r ents tr clock w ∧ (∀ d ∈ ds, d ∈ tr) ∧ ds.map (·.1) = done ∧ it ≠ r ∧ w.heap[it]? = some (.mapIter (some r) clock (ds.map (·.2)).toArray clock)
  keep := by
    rintro w w' ⟨tr, clock, ds, h, h1, h2, h3, h4⟩ hs hb
    exact ⟨tr, clock, ds, ⟨h.are, h.born, h.old, h.keys, (hb r (by simp)).trans h.heap⟩, h1, h2, h3, (hb it (by simp)).trans h4⟩
  lt := by
    rintro w ⟨tr, clock, ds, h, h1, h2, h3, h4⟩ b hb
    rcases List.mem_cons.1 hb with rfl | hb
    · exact (Array.getElem?_eq_some_iff.1 h4).1
    · have := List.mem_singleton.1 hb
      subst this
      exact (Array.getElem?_eq_some_iff.1 h.heap).1

def lkE [DecidableEq K] {β : Type} (ents : List (K × β)) (k : K) : Option β := (ents.find? (fun p => decide (p.1 = k))).map (·.2)
def putE [DecidableEq K] {β : Type} (ents : List (K × β)) (k : K) (v : β) : List (K × β) :=
  if (lkE ents k).isSome then ents.map (fun p => if p.1 = k then (k, v) else p) else ents ++ [(k, v)]
def delE [DecidableEq K] {β : Type} (ents : List (K × β)) (k : K) : List (K × β) := ents.filter fun p => decide (p.1 ≠ k)

theorem fndE_some [DecidableEq K] (κ : K → Value) (k : K) : ∀ (tr : List ((K × Value) × Nat)) (i : Nat), ((tr.map (·.1)).map (·.1)).Nodup →
    (fndE k ((tr.map (·.1)).map (·.1)) (tr.map (mkE κ)) i = none ∧ lkE (tr.map (·.1)) k = none ∧ (∀ t ∈ tr, t.1.1 ≠ k)) ∨
    ∃ (j : Nat) (t : (K × Value) × Nat), tr[j]? = some t ∧ t.1.1 = k ∧ fndE k ((tr.map (·.1)).map (·.1)) (tr.map (mkE κ)) i = some (i + j, t.1.2) ∧ lkE (tr.map (·.1)) k = some t.1.2 ∧ ∀ u ∈ tr, u.1.1 = k → u = t
  | [], i, _ => .inl ⟨rfl, rfl, by simp⟩
  | t :: tr, i, hn => by
    simp only [List.map_cons, List.nodup_cons] at hn
    by_cases e : k = t.1.1
    · refine .inr ⟨0, t, rfl, e.symm, ?_, ?_, ?_⟩
      · simp [fndE, e, mkE]
      · simp [lkE, e]
      · intro u hu huk
        rcases List.mem_cons.1 hu with h | h
        · exact h
        · exact absurd (List.mem_map.2 ⟨u.1, List.mem_map.2 ⟨u, h, rfl⟩, huk.trans e⟩) hn.1
    · have e' : ¬ t.1.1 = k := fun h => e h.symm
      rcases fndE_some κ k tr (i + 1) hn.2 with ⟨h1, h2, h3⟩ | ⟨j, u, h1, h2, h3, h4, h5⟩
      · refine .inl ⟨?_, ?_, ?_⟩
        · simpa [fndE, e] using h1
        · simpa [lkE, e'] using h2
        · intro u hu
          rcases List.mem_cons.1 hu with h | h
          · rw [h]; exact e'
          · exact h3 u h
      · refine .inr ⟨j + 1, u, by simpa using h1, h2, ?_, ?_, ?_⟩
        · have : i + (j + 1) = i + 1 + j := by omega
          rw [this]
          simpa [fndE, e] using h3
        · simpa [lkE, e'] using h4
        · intro v hv hvk
          rcases List.mem_cons.1 hv with h | h
          · rw [h] at hvk; exact absurd hvk e'
          · exact h5 v h hvk

theorem mkE_keys (κ : K → Value) (tr : List ((K × Value) × Nat)) : (tr.map (mkE κ)).map (·.key) = ((tr.map (·.1)).map (·.1)).map κ := by
  simp [List.map_map, mkE, Function.comp_def]

theorem run_setM {P : Program} {w : World} {r : Nat} {es : Array MapEntry} {clock : Nat} (o : Obj) (hb : w.heap[r]? = some (.map es clock)) : (setObj r o).run P w = .ok () { w with heap := w.heap.setIfInBounds r o } := by
  simp [setObj, Sem.run, hb]

theorem run_getMap {P : Program} {w : World} {κ : K → Value} {r : Nat} {ents : List (K × Value)} {tr : List ((K × Value) × Nat)} {clock : Nat} (h : MapIs κ r ents tr clock w) : (getObj r).run P w = .ok (.map (tr.map (mkE κ)).toArray clock) w := by
  simp [getObj, Sem.run, h.heap]

section
variable {P : Program} {l : LEnv} {C : Ctx} {own own' rest : List Res} {ats : List Atom} {o : Oper} {x y z : Operand} {κ : K → Value} {r : Nat} {ents : List (K × Value)} {kt e t : TypeId}

theorem Put.mem {r r' : Res} {l l' : List Res} (h : Put l r r' l') : r ∈ l := by
  obtain ⟨rest, h1, _⟩ := h.perms
  exact h1.mem_iff.2 (List.mem_cons_self ..)

theorem q_lookup2 [DecidableEq K] {zv : Value} (k : K) (ho : o.op = .lookup t x y true) (ht : P.underlying t = some (.map kt e)) (hK : KeyT P kt κ) (hz : TyZ P e zv) (hx : opv l x = some (.map (some r))) (hy : opv l y = some (κ k)) (hs : Sel own (rMap κ r ents) rest) :
    Qu P o l (St C own ats) (.tuple #[(lkE ents k).getD zv, .bool (lkE ents k).isSome]) := by
  intro w hw ρ hρ
  obtain ⟨tr, clock, h⟩ := hw.res hs
  have hf := hK.fnd w k _ _ (mkE_keys κ tr)
  have hent := h.are
  subst hent
  simp only [execOp, ho, hρ x _ hx, hρ y _ hy, upE, Instr.lookup]
  simp only [Sem.run_bind, run_underlying ht, Result.andThen_ok, run_getMap h, Sem.run_pure, hK.chk, hf]
  rcases fndE_some κ k tr 0 h.keys with ⟨h1, h2, _⟩ | ⟨j, u, h1, h2, h3, h4, _⟩
  · rw [h1, h2]
    simp [hz.run]
  · rw [h3, h4]
    simp
theorem q_lookup1 [DecidableEq K] {zv : Value} (k : K) (ho : o.op = .lookup t x y false) (ht : P.underlying t = some (.map kt e)) (hK : KeyT P kt κ) (hz : TyZ P e zv) (hx : opv l x = some (.map (some r))) (hy : opv l y = some (κ k)) (hs : Sel own (rMap κ r ents) rest) :
    Qu P o l (St C own ats) ((lkE ents k).getD zv) := by
  intro w hw ρ hρ
  obtain ⟨tr, clock, h⟩ := hw.res hs
  have hf := hK.fnd w k _ _ (mkE_keys κ tr)
  have hent := h.are
  subst hent
  simp only [execOp, ho, hρ x _ hx, hρ y _ hy, upE, Instr.lookup]
  simp only [Sem.run_bind, run_underlying ht, Result.andThen_ok, run_getMap h, Sem.run_pure, hK.chk, hf]
  rcases fndE_some κ k tr 0 h.keys with ⟨h1, h2, _⟩ | ⟨j, u, h1, h2, h3, h4, _⟩
  · rw [h1, h2]
    simp [hz.run]
  · rw [h3, h4]
    simp
theorem q_lenM (ho : o.op = .call { callee := .builtin .len, args := #[x], argTypes := #[t] }) (ht : P.underlying t = some (.map kt e)) (hx : opv l x = some (.map (some r))) (hs : Sel own (rMap κ r ents) rest) :
    Qu P o l (St C own ats) (.int .i64 ents.length) := by
  intro w hw ρ hρ
  obtain ⟨tr, clock, h⟩ := hw.res hs
  have hg : (getObj r).run P w = .ok (.map (tr.map (mkE κ)).toArray clock) w := by simp [getObj, Sem.run, h.heap]
  have hl : tr.length = ents.length := by rw [← h.are]; simp
  simp [execOp, ho, hρ x _ hx, upE, resolve, invoke, builtin, Builtin.len_, run_underlying ht, goInt, hg, hl]

theorem l_mkmap (κ : K → Value) (ho : o.op = .makeMap t none) : Lo P o l C own ats (fun _ : Nat => True) (fun r => .map (some r)) (fun r => rMap κ r [] :: own) (fun _ => ats) := by
  intro w hw ρ hρ
  simp only [execOp, ho, Instr.makeMap, upE, newObj]
  refine ⟨w.heap.size, trivial, rfl, ?_⟩
  refine hw.new (Kept.alloc [] w _) ?_ (by simp [rMap]) (fun b hb => by rw [List.mem_singleton.1 hb]; exact Nat.le_refl _)
  exact ⟨[], 0, rfl, by simp, by simp, by simp, heap_alloc_new w _⟩

theorem kept_set (w : World) (r : Nat) (ob : Obj) : Kept [r] w { w with heap := w.heap.setIfInBounds r ob } :=
  ⟨by simp, fun b _ hn => by rw [Array.getElem?_setIfInBounds_ne (by simpa using Ne.symm (by simpa using hn))], rfl, rfl, rfl, Nat.le_refl _⟩

theorem l_mapupd [DecidableEq K] {v : Value} (k : K) (ho : o.op = .mapUpdate t x y z) (ht : P.underlying t = some (.map kt e)) (hK : KeyT P kt κ) (hx : opv l x = some (.map (some r))) (hy : opv l y = some (κ k)) (hz : opv l z = some v)
    (hp : Put own (rMap κ r ents) (rMap κ r (putE ents k v)) own') : Lo P o l C own ats (fun _ : Unit => True) (fun _ => undef) (fun _ => own') (fun _ => ats) := by
  intro w hw ρ hρ
  obtain ⟨tr, clock, h⟩ := hw.hp.has _ hp.mem
  have hf := hK.fnd w k _ _ (mkE_keys κ tr)
  have hent := h.are
  subst hent
  simp only [execOp, ho, hρ x _ hx, hρ y _ hy, hρ z _ hz, upE, Instr.mapUpdate]
  simp only [Sem.run_bind, run_underlying ht, Result.andThen_ok, run_getMap h, Sem.run_pure, hK.chk, hf]
  have hlt : r < w.heap.size := (Array.getElem?_eq_some_iff.1 h.heap).1
  rcases fndE_some κ k tr 0 h.keys with ⟨h1, h2, h3⟩ | ⟨j, u, h1, h2, h3, h4, h5⟩
  · rw [h1]
    simp only [run_setM _ h.heap, Result.andThen_ok]
    refine ⟨(), trivial, ?_, hw.put hp (kept_set w r _) ⟨tr ++ [((k, v), clock)], clock + 1, ?_, ?_, ?_, ?_, ?_⟩ (by simp [rMap]) (fun b hb => .inl hb)⟩
    · first | rfl | trivial
    · rw [putE, h2]; simp
    · rw [List.map_append, List.nodup_append]
      refine ⟨h.born, by simp, ?_⟩
      intro a ha b hb
      simp at hb; subst hb
      obtain ⟨t, ht, rfl⟩ := List.mem_map.1 ha
      have := h.old t ht
      omega
    · intro t ht
      rcases List.mem_append.1 ht with h6 | h6
      · have := h.old t h6; omega
      · simp at h6; subst h6; simp
    · rw [putE, h2]
      simp only [Option.isSome_none, Bool.false_eq_true, if_false, List.map_append, List.nodup_append]
      refine ⟨h.keys, by simp, ?_⟩
      intro a ha b hb
      simp at hb; subst hb
      obtain ⟨q, hq, rfl⟩ := List.mem_map.1 ha
      obtain ⟨t, ht, rfl⟩ := List.mem_map.1 hq
      exact h3 t ht
    · show (w.heap.setIfInBounds r _)[r]? = _
      rw [Array.getElem?_setIfInBounds_self_of_lt hlt]
      simp [mkE]
  · rw [h3]
    simp only [Nat.zero_add]
    have hgk : ((tr.map (mkE κ)).toArray[j]?.map (·.key)).getD (κ k) = κ k := by
      simp [h1, mkE, h2]
    rw [hgk]
    simp only [Instr.keyThatStays, hK.same, if_true, Sem.run_bind, Sem.run_pure, Result.andThen_ok, run_setM _ h.heap]
    have hj : j < tr.length := (List.getElem?_eq_some_iff.1 h1).1
    have hjt : tr[j] = u := (List.getElem?_eq_some_iff.1 h1).2
    have hmap : (tr.map fun t => if t.1.1 = k then ((k, v), t.2) else t) = tr.set j ((k, v), u.2) := by
      apply List.ext_getElem
      · simp
      · intro i h6 h7
        simp only [List.length_map] at h6
        simp only [List.getElem_map, List.getElem_set]
        by_cases e1 : j = i
        · subst e1
          rw [if_pos rfl, hjt, if_pos h2]
        · rw [if_neg e1]
          by_cases e2 : tr[i].1.1 = k
          · exfalso
            have hu := h5 _ (List.getElem_mem h6) e2
            have hb := h.born
            rw [List.nodup_iff_pairwise_ne, List.pairwise_iff_getElem] at hb
            rcases Nat.lt_or_ge i j with h8 | h8
            · have := hb i j (by simpa using h6) (by simpa using hj) h8
              simp [hu, hjt] at this
            · have := hb j i (by simpa using hj) (by simpa using h6) (by omega)
              simp [hu, hjt] at this
          · rw [if_neg e2]
    refine ⟨(), trivial, ?_, hw.put hp (kept_set w r _) ⟨tr.map fun t => if t.1.1 = k then ((k, v), t.2) else t, clock, ?_, ?_, ?_, ?_, ?_⟩ (by simp [rMap]) (fun b hb => .inl hb)⟩
    · first | rfl | trivial
    · rw [putE, h4]
      simp only [Option.isSome_some, if_true, List.map_map]
      apply List.map_congr_left
      intro t _
      simp only [Function.comp_apply]
      split <;> rfl
    · have : (tr.map fun t => if t.1.1 = k then ((k, v), t.2) else t).map (·.2) = tr.map (·.2) := by
        rw [List.map_map]
        apply List.map_congr_left
        intro t _
        simp only [Function.comp_apply]
        split <;> rfl
      rw [this]; exact h.born
    · intro t ht
      obtain ⟨q, hq, rfl⟩ := List.mem_map.1 ht
      have := h.old q hq
      split
      · exact this
      · exact this
    · rw [putE, h4]
      simp only [Option.isSome_some, if_true]
      have : ((tr.map (·.1)).map fun p => if p.1 = k then (k, v) else p).map (·.1) = (tr.map (·.1)).map (·.1) := by
        rw [List.map_map]
        apply List.map_congr_left
        intro t _
        simp only [Function.comp_apply]
        split
        · rename_i h; exact h.symm
        · rfl
      rw [this]; exact h.keys
    · show (w.heap.setIfInBounds r _)[r]? = _
      rw [Array.getElem?_setIfInBounds_self_of_lt hlt, hmap]
      congr 2
      apply Array.ext'
      rw [Array.toList_modify]
      apply List.ext_getElem
      · simp
      · intro i h6 h7
        simp only [List.getElem_modify, List.getElem_map, List.getElem_set]
        by_cases e1 : j = i
        · subst e1
          simp only [if_true]
          rw [hjt]
          simp [mkE]
        · simp [e1]

theorem delE_eraseIdx [DecidableEq K] : ∀ (tr : List ((K × Value) × Nat)) (j : Nat) (u : (K × Value) × Nat) (k : K), ((tr.map (·.1)).map (·.1)).Nodup → tr[j]? = some u → u.1.1 = k → tr.eraseIdx j = tr.filter (fun t => decide (t.1.1 ≠ k))
  | [], j, u, k, _, h, _ => by simp at h
  | t :: tr, 0, u, k, hn, h, hk => by
    simp only [List.map_cons, List.nodup_cons] at hn
    simp only [List.getElem?_cons_zero, Option.some.injEq] at h
    subst h
    rw [List.eraseIdx_cons_zero, List.filter_cons_of_neg (by simp [hk])]
    rw [List.filter_eq_self.2]
    intro a ha
    simp only [decide_eq_true_eq, ne_eq]
    intro he
    exact hn.1 (List.mem_map.2 ⟨a.1, List.mem_map.2 ⟨a, ha, rfl⟩, he.trans hk.symm⟩)
  | t :: tr, j + 1, u, k, hn, h, hk => by
    simp only [List.map_cons, List.nodup_cons] at hn
    simp only [List.getElem?_cons_succ] at h
    have hne : t.1.1 ≠ k := by
      intro he
      refine hn.1 (List.mem_map.2 ⟨u.1, List.mem_map.2 ⟨u, ?_, rfl⟩, hk.trans he.symm⟩)
      exact List.mem_of_getElem? h
    rw [List.eraseIdx_cons_succ, List.filter_cons_of_pos (by simpa using hne), delE_eraseIdx tr j u k hn.2 h hk]

theorem l_delete [DecidableEq K] {kt' : TypeId} (k : K) (ho : o.op = .call { callee := .builtin .delete, args := #[x, y], argTypes := #[t, kt'] }) (ht : P.underlying t = some (.map kt e)) (hK : KeyT P kt κ) (hx : opv l x = some (.map (some r))) (hy : opv l y = some (κ k))
    (hp : Put own (rMap κ r ents) (rMap κ r (delE ents k)) own') : Lo P o l C own ats (fun _ : Unit => True) (fun _ => .tuple #[]) (fun _ => own') (fun _ => ats) := by
  intro w hw ρ hρ
  obtain ⟨tr, clock, h⟩ := hw.hp.has _ hp.mem
  have hf := hK.fnd w k _ _ (mkE_keys κ tr)
  have hent := h.are
  subst hent
  have hlt : r < w.heap.size := (Array.getElem?_eq_some_iff.1 h.heap).1
  have fin : ∀ tr' : List ((K × Value) × Nat), tr'.Sublist tr → tr'.map (·.1) = delE (tr.map (·.1)) k → ∀ w', w' = { w with heap := w.heap.setIfInBounds r (.map (tr'.map (mkE κ)).toArray clock) } → St C own' ats w' := by
    rintro tr' hsub he w' rfl
    refine hw.put hp (kept_set w r _) ⟨tr', clock, he, h.born.sublist (hsub.map _), fun t ht => h.old t (hsub.subset ht), ?_, ?_⟩ (by simp [rMap]) (fun b hb => .inl hb)
    · rw [← he]; exact h.keys.sublist ((hsub.map _).map _)
    · show (w.heap.setIfInBounds r _)[r]? = _
      rw [Array.getElem?_setIfInBounds_self_of_lt hlt]
  simp only [execOp, ho, resolve, upE, invoke, builtin, Builtin.delete_]
  simp only [List.map_toArray, List.map_cons, List.map_nil, hρ x _ hx, hρ y _ hy]
  simp only [Sem.run_bind, Sem.run_pure, Result.andThen_ok, run_underlying ht, run_getMap h, hK.chk, hf, List.getElem?_toArray, List.getElem?_cons_zero, List.getElem?_cons_succ]
  rcases fndE_some κ k tr 0 h.keys with ⟨h1, h2, h3⟩ | ⟨j, u, h1, h2, h3, h4, h5⟩
  · rw [h1]
    simp only [Sem.run_bind, run_setM _ h.heap, Result.andThen_ok, Sem.run_pure]
    refine ⟨(), trivial, by first | rfl | trivial, fin tr (List.Sublist.refl _) ?_ _ rfl⟩
    unfold delE
    rw [List.filter_eq_self.2]
    intro a ha
    obtain ⟨t, ht, rfl⟩ := List.mem_map.1 ha
    simpa using h3 t ht
  · rw [h3]
    simp only [Sem.run_bind, Nat.zero_add, run_setM _ h.heap, Result.andThen_ok, Sem.run_pure]
    refine ⟨(), trivial, by first | rfl | trivial, fin (tr.eraseIdx j) (List.eraseIdx_sublist ..) ?_ _ ?_⟩
    · rw [delE_eraseIdx tr j u k h.keys h1 h2]
      unfold delE
      rw [List.filter_map]
      rfl
    · have hj : j < tr.length := (List.getElem?_eq_some_iff.1 h1).1
      congr 3
      rw [ChangeMaps.map_eraseIdx]
      simp [Array.eraseIdxIfInBounds, hj]

/-! ### Rounds -/
theorem l_range (κ : K → Value) {ents : List (K × Value)} {own' : Nat → List Res} (ho : o.op = .range t x) (ht : P.underlying t = some (.map kt e)) (hx : opv l x = some (.map (some r)))
    (hp : ∀ it, Put own (rMap κ r ents) (rRng κ it r ents []) (own' it)) : Lo P o l C own ats (fun _ : Nat => True) (fun it => .pointer (some ⟨it, 0, none⟩)) own' (fun _ => ats) := by
  intro w hw ρ hρ
  obtain ⟨tr, clock, h⟩ := hw.hp.has _ (hp 0).mem
  have hlt : r < w.heap.size := (Array.getElem?_eq_some_iff.1 h.heap).1
  simp only [execOp, ho, hρ x _ hx, upE, Instr.range]
  simp only [Sem.run_bind, run_underlying ht, Result.andThen_ok, run_getMap h, Sem.run_pure, newObj]
  refine ⟨w.heap.size, trivial, rfl, ?_⟩
  refine hw.put (hp w.heap.size) ((Kept.alloc [] w _).mono (by simp)) ⟨tr, clock, [], ⟨h.are, h.born, h.old, h.keys, ?_⟩, by simp, rfl, by omega, ?_⟩ ?_ ?_
  · exact (heap_alloc_old w _ hlt).trans h.heap
  · exact heap_alloc_new w _
  · simp [rRng]; omega
  · intro b hb
    rcases List.mem_cons.1 hb with rfl | hb
    · exact .inr (Nat.le_refl _)
    · exact .inl hb

theorem q_entry {it : Nat} {done : List (K × Value)} {p : K × Value} (ho : o.op = .entry x) (hx : opv l x = some (.pointer (some ⟨it, 0, none⟩))) (hs : Sel own (rRng κ it r ents (done ++ [p])) rest) :
    Qu P o l (St C own ats) (.tuple #[κ p.1, p.2]) := by
  intro w hw ρ hρ
  obtain ⟨tr, clock, ds, h, h1, h2, h3, h4⟩ := hw.res hs
  obtain ⟨ds', d, rfl, hd1, hd2⟩ : ∃ ds' d, ds = ds' ++ [d] ∧ ds'.map (·.1) = done ∧ d.1 = p := by
    rw [List.map_eq_append_iff] at h2
    obtain ⟨a, b, rfl, h5, h6⟩ := h2
    obtain ⟨d, b', rfl, h7, h8⟩ := List.map_eq_cons_iff.1 h6
    have : b' = [] := List.map_eq_nil_iff.1 h8
    subst this
    exact ⟨a, d, rfl, h5, h7⟩
  subst hd2
  have hmem : mkE κ d ∈ (tr.map (mkE κ)).toArray.toList := by
    exact List.mem_map.2 ⟨d, h1 d (by simp), rfl⟩
  have hb : ((tr.map (mkE κ)).toArray.toList.map (·.born)).Nodup := by
    simp only [List.map_map]
    exact h.born
  have hr : w.heap[it]? = some (.mapIter (some r) clock ((ds'.map (·.2)).toArray.push (mkE κ d).born) clock) := by
    rw [h4]; simp [mkE]
  have := run_entry_at (P := P) w it r clock (ds'.map (·.2)).toArray _ clock (mkE κ d) hr h.heap hmem hb
  simp only [execOp, ho, hρ x _ hx, upE]
  simp only [Sem.run_bind, this, Result.andThen_ok]
  exact ⟨rfl, rfl⟩

abbrev nextV (κ : K → Value) : Option (K × Value) → Value
  | none => .tuple #[.bool false]
  | some p => .tuple #[.bool true, κ p.1, p.2]
abbrev nextD (done : List (K × Value)) : Option (K × Value) → List (K × Value)
  | none => done
  | some p => done ++ [p]
abbrev nextP (ents done : List (K × Value)) : Option (K × Value) → Prop
  | none => ∀ p ∈ ents, p ∈ done
  | some p => p ∈ ents ∧ p ∉ done

theorem l_next {it : Nat} {done : List (K × Value)} {own' : Option (K × Value) → List Res} (ho : o.op = .next x false) (hx : opv l x = some (.pointer (some ⟨it, 0, none⟩)))
    (hp : ∀ y, Put own (rRng κ it r ents done) (rRng κ it r ents (nextD done y)) (own' y)) : Lo P o l C own ats (nextP ents done) (nextV κ) own' (fun _ => ats) := by
  intro w hw ρ hρ
  obtain ⟨tr, clock, ds, h, h1, h2, h3, h4⟩ := hw.hp.has _ (hp none).mem
  have hlt : it < w.heap.size := (Array.getElem?_eq_some_iff.1 h4).1
  have hold : ∀ x ∈ (tr.map (mkE κ)).toArray.toList, x.born < clock := by
    intro x hx
    simp only [List.mem_map] at hx
    obtain ⟨t, ht, rfl⟩ := hx
    exact h.old t ht
  have bornInj : ∀ a ∈ tr, ∀ b ∈ tr, a.2 = b.2 → a = b := by
    intro a ha b hb hab
    obtain ⟨i, hi, rfl⟩ := List.mem_iff_getElem.1 ha
    obtain ⟨j, hj, rfl⟩ := List.mem_iff_getElem.1 hb
    have hn := h.born
    rw [List.nodup_iff_pairwise_ne, List.pairwise_iff_getElem] at hn
    rcases Nat.lt_trichotomy i j with h8 | h8 | h8
    · have := hn i j (by simpa using hi) (by simpa using hj) h8
      simp [hab] at this
    · subst h8; rfl
    · have := hn j i (by simpa using hj) (by simpa using hi) h8
      simp [hab] at this
  have keyInj : ∀ a ∈ tr, ∀ b ∈ tr, a.1 = b.1 → a = b := by
    intro a ha b hb hab
    obtain ⟨i, hi, rfl⟩ := List.mem_iff_getElem.1 ha
    obtain ⟨j, hj, rfl⟩ := List.mem_iff_getElem.1 hb
    have hn := h.keys
    rw [← h.are, List.nodup_iff_pairwise_ne, List.pairwise_iff_getElem] at hn
    rcases Nat.lt_trichotomy i j with h8 | h8 | h8
    · have := hn i j (by simpa using hi) (by simpa using hj) h8
      simp [hab] at this
    · subst h8; rfl
    · have := hn j i (by simpa using hj) (by simpa using hi) h8
      simp [hab] at this
  simp only [execOp, ho, hρ x _ hx, upE]
  rcases run_next_at (P := P) w o.type it r clock clock (ds.map (·.2)).toArray _ clock h4 h.heap hold (Nat.le_refl _) with ⟨hz, hr⟩ | ⟨en, hen, w1, hw1, hr⟩
  · simp only [Sem.run_bind, hr, Result.andThen_ok]
    refine ⟨none, ?_, rfl, hw.put (hp none) (Kept.refl _ _) ⟨tr, clock, ds, h, h1, h2, h3, h4⟩ (by simp [rRng, h3]) (fun b hb => .inl hb)⟩
    intro p hp'
    rw [← h.are] at hp'
    obtain ⟨t, ht, rfl⟩ := List.mem_map.1 hp'
    have hnil : leftOf (tr.map (mkE κ)).toArray (ds.map (·.2)).toArray = #[] := Array.eq_empty_of_size_eq_zero hz
    unfold leftOf at hnil
    rw [Array.filter_eq_empty_iff] at hnil
    have := hnil (mkE κ t) (by rw [List.mem_toArray]; exact List.mem_map.2 ⟨t, ht, rfl⟩)
    simp only [mkE, Bool.not_eq_true', Bool.not_eq_false, List.contains_toArray, List.contains_eq_mem, List.mem_map, decide_eq_true_eq] at this
    obtain ⟨d, hd, hdt⟩ := this
    have := bornInj d (h1 d hd) t ht hdt
    subst this
    rw [← h2]
    exact List.mem_map.2 ⟨d, hd, rfl⟩
  · simp only [Sem.run_bind, hr, Result.andThen_ok]
    unfold leftOf at hen
    simp only [Array.toList_filter, List.mem_filter, List.mem_map, Bool.not_eq_true', List.contains_toArray] at hen
    obtain ⟨⟨t, ht, rfl⟩, hnc⟩ := hen
    have hnd : t.2 ∉ ds.map (·.2) := by
      intro hc
      have : (ds.map (·.2)).contains t.2 = true := by simpa using hc
      simp [mkE] at hnc
      obtain ⟨d, hd, hdt⟩ := List.mem_map.1 hc
      have := bornInj d (h1 d hd) t ht hdt
      subst this
      exact hnc _ _ hd
    have hk : Kept [it, r] w w1 := by
      rcases hw1 with rfl | rfl
      · exact Kept.refl _ _
      · exact ⟨Nat.le_refl _, fun _ _ _ => rfl, rfl, rfl, rfl, Nat.le_succ _⟩
    have hheap : w1.heap = w.heap := by rcases hw1 with rfl | rfl <;> rfl
    refine ⟨some t.1, ⟨?_, ?_⟩, rfl, hw.put (hp (some t.1)) (hk.trans ?_) ⟨tr, clock, ds ++ [t], ⟨h.are, h.born, h.old, h.keys, ?_⟩, ?_, ?_, h3, ?_⟩ (by simp [rRng, h3]) (fun b hb => .inl hb)⟩
    · rw [← h.are]; exact List.mem_map.2 ⟨t, ht, rfl⟩
    · intro hc
      rw [← h2] at hc
      obtain ⟨d, hd, hdt⟩ := List.mem_map.1 hc
      have := keyInj d (h1 d hd) t ht hdt
      subst this
      exact hnd (List.mem_map.2 ⟨d, hd, rfl⟩)
    · exact (kept_set w1 it _).mono (by simp)
    · show (w1.heap.setIfInBounds it _)[r]? = _
      rw [Array.getElem?_setIfInBounds_ne h3, hheap]
      exact h.heap
    · intro d hd
      rcases List.mem_append.1 hd with h5 | h5
      · exact h1 d h5
      · simp at h5; subst h5; exact ht
    · rw [List.map_append, h2]; rfl
    · show (w1.heap.setIfInBounds it _)[it]? = _
      rw [hheap, Array.getElem?_setIfInBounds_self_of_lt hlt]
      simp [mkE]
theorem q_lookup2E [DecidableEq K] {zv v : Value} {b : Bool} (k : K) (ho : o.op = .lookup t x y true) (ht : P.underlying t = some (.map kt e)) (hK : KeyT P kt κ) (hz : TyZ P e zv) (hx : opv l x = some (.map (some r))) (hy : opv l y = some (κ k)) (hs : Sel own (rMap κ r ents) rest)
    (hv : (lkE ents k).getD zv = v) (hb : (lkE ents k).isSome = b) : Qu P o l (St C own ats) (.tuple #[v, .bool b]) := by
  subst hv; subst hb; exact q_lookup2 k ho ht hK hz hx hy hs
theorem q_lookup1E [DecidableEq K] {zv v : Value} (k : K) (ho : o.op = .lookup t x y false) (ht : P.underlying t = some (.map kt e)) (hK : KeyT P kt κ) (hz : TyZ P e zv) (hx : opv l x = some (.map (some r))) (hy : opv l y = some (κ k)) (hs : Sel own (rMap κ r ents) rest)
    (hv : (lkE ents k).getD zv = v) : Qu P o l (St C own ats) v := by
  subst hv; exact q_lookup1 k ho ht hK hz hx hy hs
end
end

/-- the rounds are over -/
theorem St.rngEnd {K : Type} {C : Ctx} {own own' : List Res} {ats : List Atom} {w : World} {κ : K → Value} {it r : Nat} {ents done : List (K × Value)} (h : St C own ats w) (hp : Put own (rRng κ it r ents done) (rMap κ r ents) own') : St C own' ats w := by
  obtain ⟨tr, clock, ds, h1, _⟩ := h.hp.has _ hp.mem
  exact h.put hp (Kept.refl _ _) ⟨tr, clock, h1⟩ (by simp [rMap]) (fun b hb => .inl (by simp [rMap] at hb; simp [rRng, hb]))

/-! ### Maps whose values are structs -/
section
variable {K α : Type} (R : Rep α) (M : List Nat) (w : World)
/-- B is what the entries E mean. -/
inductive Mp : List (K × α) → List (K × Value) → Prop
  | nil : Mp [] []
  | cons {k : K} {x : α} {cs : List Value} {B : List (K × α)} {E : List (K × Value)} (h : R.p M w x cs) (t : Mp B E) : Mp ((k, x) :: B) ((k, .agg cs.toArray) :: E)
end
section
variable {K α : Type} {R : Rep α} {M M' : List Nat} {w w' : World} {B : List (K × α)} {E : List (K × Value)}
theorem Mp.mov (h : Mp R M w B E) (k : Kept M w w') (hM : ∀ b ∈ M', b ∈ M ∨ w.heap.size ≤ b) : Mp R M' w' B E := by
  induction h with
  | nil => exact .nil
  | cons h _ ih => exact .cons (R.mov h k hM) ih
def aMp (R : Rep α) (B : List (K × α)) (E : List (K × Value)) : Atom := ⟨fun M w => Mp R M w B E, Mp.mov⟩
theorem Mp.keys (h : Mp R M w B E) : B.map (·.1) = E.map (·.1) := by
  induction h with
  | nil => rfl
  | cons _ _ ih => simp [ih]
theorem Mp.len (h : Mp R M w B E) : B.length = E.length := by
  have := congrArg List.length h.keys
  simpa using this
theorem Mp.app {B' : List (K × α)} {E' : List (K × Value)} (h : Mp R M w B E) (h' : Mp R M w B' E') : Mp R M w (B ++ B') (E ++ E') := by
  induction h with
  | nil => exact h'
  | cons h _ ih => exact .cons h ih
theorem lkE_cons [DecidableEq K] {β : Type} (k k' : K) (v : β) (l : List (K × β)) : lkE ((k', v) :: l) k = if k' = k then some v else lkE l k := by
  by_cases e : k' = k <;> simp [lkE, e]
theorem Mp.lk [DecidableEq K] (h : Mp R M w B E) (k : K) : (lkE B k = none ∧ lkE E k = none) ∨ ∃ x cs, lkE B k = some x ∧ lkE E k = some (.agg cs.toArray) ∧ R.p M w x cs := by
  induction h with
  | nil => exact .inl ⟨rfl, rfl⟩
  | cons h _ ih =>
    rename_i k' x cs B E _
    rw [lkE_cons, lkE_cons]
    by_cases e : k' = k
    · rw [if_pos e, if_pos e]
      exact .inr ⟨x, cs, rfl, rfl, h⟩
    · rw [if_neg e, if_neg e]
      exact ih
theorem Mp.isSome [DecidableEq K] (h : Mp R M w B E) (k : K) : (lkE E k).isSome = (lkE B k).isSome := by
  rcases h.lk k with ⟨h1, h2⟩ | ⟨x, cs, h1, h2, _⟩ <;> rw [h1, h2] <;> rfl
theorem Mp.put [DecidableEq K] (h : Mp R M w B E) (k : K) {x : α} {cs : List Value} (hx : R.p M w x cs) : Mp R M w (putE B k x) (putE E k (.agg cs.toArray)) := by
  unfold putE
  rw [h.isSome k]
  split
  · rename_i hs
    clear hs
    induction h with
    | nil => exact .nil
    | cons h _ ih =>
      rename_i k' x' cs' B E _
      rw [List.map_cons, List.map_cons]
      by_cases e : k' = k
      · simp only [e, if_true]
        exact .cons hx ih
      · simp only [e, if_false]
        exact .cons h ih
  · exact h.app (.cons hx .nil)
theorem Mp.del [DecidableEq K] (h : Mp R M w B E) (k : K) : Mp R M w (delE B k) (delE E k) := by
  unfold delE
  induction h with
  | nil => exact .nil
  | cons h _ ih =>
    rename_i k' x' cs' B E _
    by_cases e : k' = k
    · rw [List.filter_cons_of_neg (by simp [e]), List.filter_cons_of_neg (by simp [e])]
      exact ih
    · rw [List.filter_cons_of_pos (by simp [e]), List.filter_cons_of_pos (by simp [e])]
      exact .cons h ih
theorem Mp.mem (h : Mp R M w B E) {p : K × Value} (hp : p ∈ E) : ∃ x cs, (p.1, x) ∈ B ∧ p.2 = .agg cs.toArray ∧ R.p M w x cs := by
  induction h with
  | nil => cases hp
  | cons h _ ih =>
    rename_i k' x' cs' B E _
    rcases List.mem_cons.1 hp with rfl | hp
    · exact ⟨x', cs', List.mem_cons_self .., rfl, h⟩
    · obtain ⟨x, cs, h1, h2, h3⟩ := ih hp
      exact ⟨x, cs, List.mem_cons_of_mem _ h1, h2, h3⟩
end
end Go.Proofs.YtgbhegmhbeekpaaGreat
