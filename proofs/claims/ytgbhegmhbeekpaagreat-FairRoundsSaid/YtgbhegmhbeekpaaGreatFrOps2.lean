/-
  More operations: what is built, rows that grow, comparisons with nil, the least and the greatest.
-/
import Derived.Test.YtgbhegmhbeekpaaGreatFrOps
import Derived.Lib.SliceRun
import Derived.Laws.Cover3
import Derived.Laws.Small
import Derived.Laws.Pointers

namespace Go.Proofs.YtgbhegmhbeekpaaGreat
open Go

section
variable {P : Program} {l : LEnv} {S : World → Prop} {o : Oper} {x y : Operand} {X : Value}

theorem q_eqlnil {T T' e : TypeId} {a : Option Addr} {n c : Nat} (ho : o.op = .binOp .eql T x y T') (ht : P.underlying T = some (.slice e)) (hx : opv l x = some (.slice a n c)) (hy : opv l y = some (.slice none 0 0)) : Qu P o l S (.bool a.isNone) := by
  intro w _ ρ hρ
  have h := Go.Lib.run_eql_slice_nil (P := P) w T e a n c 0 0 ht
  simp [execOp, ho, hρ x _ hx, hρ y _ hy, upE, eqGuard_at_slice, h]
theorem q_neqnil {T T' e : TypeId} {a : Option Addr} {n c : Nat} (ho : o.op = .binOp .neq T x y T') (ht : P.underlying T = some (.slice e)) (hx : opv l x = some (.slice a n c)) (hy : opv l y = some (.slice none 0 0)) : Qu P o l S (.bool a.isSome) := by
  intro w _ ρ hρ
  have h := run_neq_slice_nil (P := P) w T e a n c ht
  cases a <;> simp [execOp, ho, hρ x _ hx, hρ y _ hy, upE, eqGuard_at_slice, h]
theorem q_eql_pointer {T T' : TypeId} {a : Option Addr} {e : TypeId} (ho : o.op = .binOp .eql T x y T') (ht : P.underlying T = some (.pointer e)) (hx : opv l x = some (.pointer a)) (hy : opv l y = some (.pointer none)) : Qu P o l S (.bool a.isNone) := by
  intro w _ ρ hρ
  have h := run_eql_pointer_nil (P := P) w T a (by unfold Program.pointee; rw [ht])
  simp [execOp, ho, hρ x _ hx, hρ y _ hy, upE, eqGuard_at_pointer, h]
theorem q_neq_pointer {T T' : TypeId} {a : Option Addr} {e : TypeId} (ho : o.op = .binOp .neq T x y T') (ht : P.underlying T = some (.pointer e)) (hx : opv l x = some (.pointer a)) (hy : opv l y = some (.pointer none)) : Qu P o l S (.bool a.isSome) := by
  intro w _ ρ hρ
  have h := run_neq_pointer_nil (P := P) w T a (by unfold Program.pointee; rw [ht])
  cases a <;> simp [execOp, ho, hρ x _ hx, hρ y _ hy, upE, eqGuard_at_pointer, h]
theorem q_eql_bool {T T' : TypeId} {a b : Bool} (ho : o.op = .binOp .eql T x y T') (ht : P.underlying T = some .bool) (hx : opv l x = some (.bool a)) (hy : opv l y = some (.bool b)) : Qu P o l S (.bool (a == b)) := by
  intro w _ ρ hρ
  have h := run_eql_bool (P := P) w T a b ht
  simp [execOp, ho, hρ x _ hx, hρ y _ hy, upE, eqGuard_at_bool, h]
theorem q_neq_bool {T T' : TypeId} {a b : Bool} (ho : o.op = .binOp .neq T x y T') (ht : P.underlying T = some .bool) (hx : opv l x = some (.bool a)) (hy : opv l y = some (.bool b)) : Qu P o l S (.bool (!(a == b))) := by
  intro w _ ρ hρ
  have h := run_neq_bool (P := P) w T a b ht
  simp [execOp, ho, hρ x _ hx, hρ y _ hy, upE, eqGuard_at_bool, h]

/-- the place of an element of structs, opened before -/
theorem q_iaE {t e : TypeId} {a : Option Addr} {n c k i : Nat} {ag : Bool} {j : IntKind} {ad : Addr} (ho : o.op = .indexAddr t x y) (ht : P.underlying t = some (.slice e)) (hk : Ty P e ag k) (hx : opv l x = some (.slice a n c)) (hy : opv l y = some (.int j (i : Int)))
    (h1 : i < n) (ha : ea a i k = some ad) : Qu P o l S (.pointer (some ad)) :=
  q_ia ho ht hk hx hy (by omega) (by omega) (by simpa using ha)

/-- the place of an element of an array in a block of the call's own -/
theorem q_iaA {t e n k g off : Nat} {ag : Bool} {j : IntKind} {i : Int} (ho : o.op = .indexAddr t x y) (ht : P.underlying t = some (.array n e)) (hk : Ty P e ag k) (hx : opv l x = some (.pointer (some ⟨g, off, none⟩))) (hy : opv l y = some (.int j i))
    (h0 : 0 ≤ i) (h1 : i < n) : Qu P o l S (.pointer (some ⟨g, off + i.toNat * k, none⟩)) := by
  intro w _ ρ hρ
  simp [execOp, ho, hρ x _ hx, hρ y _ hy, upE, Instr.indexAt, asIntOf, run_underlying ht, h0, h1, hk.run_size, addr_add, Instr.sureAddr]

/-! what is built -/
theorem PutL.eq {cs vs cs' : List Value} {off : Nat} (h : PutL cs off vs cs') : cs' = cs.take off ++ vs ++ cs.drop (off + vs.length) ∧ off + vs.length ≤ cs.length := by
  induction h with
  | z => simp
  | s _ ih => obtain ⟨h1, h2⟩ := ih; refine ⟨?_, by simp at h2 ⊢; omega⟩; simp only [Nat.zero_add, List.take_zero, List.nil_append] at h1 ⊢; rw [h1]; simp
  | t _ ih => obtain ⟨h1, h2⟩ := ih; refine ⟨?_, by simp at h2 ⊢; omega⟩; rw [h1, Nat.add_right_comm]; simp

theorem fold_set (off : Nat) : ∀ (vs : List Value) (j : Nat) (cs : List Value), off + j + vs.length ≤ cs.length →
    (vs.zipIdx j).foldl (fun (cs : Array Value) (p : Value × Nat) => cs.setIfInBounds (off + p.2) p.1) cs.toArray = (cs.take (off + j) ++ vs ++ cs.drop (off + j + vs.length)).toArray
  | [], j, cs, _ => by simp
  | v :: vs, j, cs, h => by
    simp only [List.length_cons] at h
    rw [List.zipIdx_cons, List.foldl_cons, List.setIfInBounds_toArray, fold_set off vs (j + 1) (cs.set (off + j) v) (by simp; omega)]
    congr 1
    have e1 : (cs.set (off + j) v).take (off + (j + 1)) = cs.take (off + j) ++ [v] := by
      rw [← Nat.add_assoc, List.take_succ_eq_append_getElem (by simp; omega), List.take_set_of_le (by omega)]
      simp
    have e2 : (cs.set (off + j) v).drop (off + (j + 1) + vs.length) = cs.drop (off + j + (vs.length + 1)) := by
      rw [List.drop_set_of_lt (by omega)]
      congr 1
      omega
    rw [e1, e2]
    simp

theorem PutL.fold {cs vs cs' : List Value} {off : Nat} (h : PutL cs off vs cs') : vs.toArray.zipIdx.foldl (fun (cs : Array Value) (p : Value × Nat) => cs.setIfInBounds (off + p.2) p.1) cs.toArray = cs'.toArray := by
  obtain ⟨h1, h2⟩ := h.eq
  rw [← Array.foldl_toList, Array.toList_zipIdx, List.toList_toArray, fold_set off vs 0 cs (by omega), h1]
  rfl

inductive FillL (pl : Nat → Option (Nat × Nat)) : List Value → List (Nat × List Value) → List Value → Prop
  | nil {zs : List Value} : FillL pl zs [] zs
  | cons {i off k : Nat} {vs zs zs1 zs2 : List Value} {r : List (Nat × List Value)} (hi : pl i = some (off, k)) (hk : vs.length = k) (hp : PutL zs off vs zs1) (hr : FillL pl zs1 r zs2) : FillL pl zs ((i, vs) :: r) zs2

def pvals (l : LEnv) : List (Nat × Operand) → Option (List (Nat × List Value))
  | [] => some []
  | (i, x) :: xs => match opv l x with
    | some v => match pvals l xs with
      | some vs => some ((i, v.cells.toList) :: vs)
      | none => none
    | none => none

theorem fill_of {pl : Nat → Option (Nat × Nat)} {l : LEnv} {ρ : Operand → Value} (hρ : Agr ρ l) : ∀ {xs : List (Nat × Operand)} {pv : List (Nat × List Value)} {zs zs' : List Value}, pvals l xs = some pv → FillL pl zs pv zs' →
    Instr.fill pl zs.toArray (xs.map fun (i, x) => (i, ρ x)) = some zs'.toArray
  | [], pv, zs, zs', h, hf => by
    simp [pvals] at h
    subst h
    cases hf
    rfl
  | (i, x) :: xs, pv, zs, zs', h, hf => by
    unfold pvals at h
    cases hv : opv l x with
    | none => rw [hv] at h; cases h
    | some v =>
      rw [hv] at h
      cases hs : pvals l xs with
      | none => rw [hs] at h; cases h
      | some vs =>
        rw [hs] at h
        injection h with h
        subst h
        cases hf with
        | cons hi hk hp hr =>
          rename_i off k zs1
          have ih := fill_of hρ hs hr
          rw [List.map_cons, Instr.fill]
          simp only [hi, hρ x v hv]
          have hsz : v.cells.size = k := by rw [← hk]; simp
          have hb := hp.eq.2
          rw [if_neg (by simp only [hsz, ne_eq, not_true_eq_false, decide_false, Bool.false_or, decide_eq_true_eq, List.size_toArray]; simp at hb; omega)]
          have hfold := hp.fold
          simp only [Array.toArray_toList] at hfold
          rw [← ih]
          congr 1

/-- The fields' places. -/
def Places (P : Program) (t : TypeId) (pl : Nat → Option (Nat × Nat)) : Prop :=
  ∃ fs ks, P.underlying t = some (.struct fs) ∧ (∀ w, (fs.mapM (m := Sem) fun f => do pure (f.offset, ← sizeOf f.type)).run P w = .ok ks w) ∧ ∀ i, pl i = ks[i]?

def placesOf (P : Program) : List Field → Option (List (Nat × Nat))
  | [] => some []
  | f :: fs => match P.info? f.type with
    | some i => match placesOf P fs with
      | some r => some ((f.offset, i.size) :: r)
      | none => none
    | none => none
theorem Places.of {t : TypeId} {fs : Array Field} {ks : List (Nat × Nat)} (hu : P.underlying t = some (.struct fs)) (h : placesOf P fs.toList = some ks) : Places P t (fun i => ks[i]?) := by
  refine ⟨fs, ks.toArray, hu, fun w => ?_, fun i => by simp⟩
  have key : ∀ (l : List Field) (ks : List (Nat × Nat)), placesOf P l = some ks → (l.mapM (m := Sem) fun f => do pure (f.offset, ← sizeOf f.type)).run P w = .ok ks w := by
    intro l
    induction l with
    | nil => intro ks h; simp [placesOf] at h; subst h; rfl
    | cons f l ih =>
      intro ks h
      unfold placesOf at h
      cases hi : P.info? f.type with
      | none => rw [hi] at h; cases h
      | some i =>
        rw [hi] at h
        cases hr : placesOf P l with
        | none => rw [hr] at h; cases h
        | some r =>
          rw [hr] at h
          injection h with h
          subst h
          rw [List.mapM_cons]
          simp only [Sem.run_bind, sizeOf, run_typeInfo' hi, Result.andThen_ok, Sem.run_pure]
          have := ih r hr
          simp only [sizeOf] at this
          rw [this]
          rfl
  have := key fs.toList ks h
  rw [Array.mapM_eq_mapM_toList]
  rw [← bind_pure_comp, Sem.run_bind, this]
  rfl

theorem q_buildS {t : TypeId} {parts : Array (Nat × Operand)} {pv : List (Nat × List Value)} {z : Value} {zs zs' : List Value} {pl : Nat → Option (Nat × Nat)} (ho : o.op = .build t parts) (hp : Places P t pl) (hz : TyZ P t z) (hzs : z.cells.toList = zs)
    (hv : pvals l parts.toList = some pv) (hf : FillL pl zs pv zs') : Qu P o l S (.agg zs'.toArray) := by
  intro w _ ρ hρ
  obtain ⟨fs, ks, h1, h2, h3⟩ := hp
  have h4 := fill_of hρ hv hf
  have h5 : z.cells = zs.toArray := by rw [← hzs]
  have h6 : pl = (ks[·]?) := funext h3
  have h7 : (parts.map fun (i, x) => (i, ρ x)).toList = parts.toList.map fun (i, x) => (i, ρ x) := by simp
  simp only [execOp, ho, upE, Instr.build]
  simp only [Sem.run_bind, hz.run, run_underlying h1, h2, Result.andThen_ok]
  rw [h7, h5, ← h6, h4]
  exact ⟨rfl, rfl⟩
theorem q_buildA {t e n k : Nat} {ag : Bool} {parts : Array (Nat × Operand)} {pv : List (Nat × List Value)} {z : Value} {zs zs' : List Value} (ho : o.op = .build t parts) (ht : P.underlying t = some (.array n e)) (hk : Ty P e ag k) (hz : TyZ P t z) (hzs : z.cells.toList = zs)
    (hv : pvals l parts.toList = some pv) (hf : FillL (fun i => some (i * k, k)) zs pv zs') : Qu P o l S (.agg zs'.toArray) := by
  intro w _ ρ hρ
  have h4 := fill_of hρ hv hf
  have h5 : z.cells = zs.toArray := by rw [← hzs]
  have h7 : (parts.map fun (i, x) => (i, ρ x)).toList = parts.toList.map fun (i, x) => (i, ρ x) := by simp
  simp only [execOp, ho, upE, Instr.build]
  simp only [Sem.run_bind, hz.run, run_underlying ht, hk.run_size, Result.andThen_ok]
  rw [h7, h5, h4]
  exact ⟨rfl, rfl⟩
end

section
variable {P : Program} {l : LEnv} {C : Ctx} {own own' : List Res} {ats : List Atom} {o : Oper} {x y : Operand} {X : Value}

def zerosL (zc : List Value) : Nat → List Value
  | 0 => []
  | n + 1 => zc ++ zerosL zc n
theorem zerosL_nil : ∀ n, zerosL [] n = []
  | 0 => rfl
  | n + 1 => by rw [zerosL, zerosL_nil n]; rfl
theorem zeros_eq (zc : Array Value) (n : Nat) : ((Array.range (n * zc.size)).map (zc[· % zc.size]!)).toList = zerosL zc.toList n := by
  have hsz : zc.size = zc.toList.length := by simp
  rw [Array.toList_map, Array.toList_range]
  induction n with
  | zero => simp [zerosL]
  | succ n ih =>
    rw [Nat.succ_mul, Nat.add_comm, List.range_add, List.map_append, List.map_map, zerosL]
    congr 1
    · apply List.ext_getElem
      · simp
      · intro i h1 h2
        simp only [List.length_map, List.length_range] at h1
        simp [Nat.mod_eq_of_lt h1, h1]
    · rw [← ih]
      apply List.map_congr_left
      intro i _
      simp

theorem l_bs {t e len k : Nat} {ag : Bool} {parts : Array (Nat × Operand)} {pv : List (Nat × List Value)} {z : Value} (zs : List Value) {zs' : List Value} (ho : o.op = .buildSlice t len parts) (ht : P.underlying t = some (.slice e)) (hk : Ty P e ag k) (hz : TyZ P e z) (hsm : ¬ len * k > 2 ^ 24) (hzk : z.cells.size = k)
    (hzs' : zerosL z.cells.toList len = zs) (hv : pvals l parts.toList = some pv) (hf : FillL (fun i => some (i * k, k)) zs pv zs') :
    Lo P o l C own ats (fun _ : Nat => True) (fun g => .slice (some ⟨g, 0, none⟩) len len) (fun g => rBlk g e zs' :: own) (fun _ => ats) := by
  intro w hw ρ hρ
  have h4 := fill_of hρ hv hf
  have h7 : (parts.map fun (i, x) => (i, ρ x)).toList = parts.toList.map fun (i, x) => (i, ρ x) := by simp
  have hzs : ((Array.range (len * k)).map ((if len * k = 0 then #[] else z.cells)[· % (if len * k = 0 then #[] else z.cells).size]!)).toList = zs := by
    by_cases h0 : len * k = 0
    · have : zerosL z.cells.toList len = [] := by
        rcases Nat.mul_eq_zero.1 h0 with h | h
        · subst h; rfl
        · have hz0 : z.cells = #[] := Array.eq_empty_of_size_eq_zero (hzk.trans h)
          rw [hz0]
          exact zerosL_nil len
      rw [← hzs', this, h0]
      simp
    · simp only [if_neg h0]
      subst hzk
      rw [zeros_eq, hzs']
  have h8 : (Array.range (len * k)).map ((if len * k = 0 then #[] else z.cells)[· % (if len * k = 0 then #[] else z.cells).size]!) = zs.toArray := by rw [← hzs]
  simp only [execOp, ho, upE, Instr.buildSlice]
  simp only [Sem.run_bind, run_underlying ht, hk.run_size, Result.andThen_ok, if_neg hsm]
  have key : ∀ zc : Array Value, (Array.range (len * k)).map (zc[· % zc.size]!) = zs.toArray → (Instr.fill (fun i => some (i * k, k)) ((Array.range (len * k)).map (zc[· % zc.size]!)) (parts.map fun (i, x) => (i, ρ x)).toList) = some zs'.toArray := fun zc h => by
    rw [h7, h, h4]
  by_cases h0 : len * k = 0
  · simp only [if_pos h0] at h8 ⊢
    simp only [Sem.run_bind, Sem.run_pure, Result.andThen_ok, key _ h8]
    simp only [newRow, newObj]
    refine ⟨w.heap.size, trivial, rfl, ?_⟩
    refine hw.new (Kept.alloc [] w _) ?_ (by simp [rBlk]) (fun b hb => by rw [List.mem_singleton.1 hb]; exact Nat.le_refl _)
    show (w.alloc _).heap[w.heap.size]? = _
    rw [heap_alloc_new]
  simp only [if_neg h0] at h8 ⊢
  simp only [Sem.run_bind, Sem.run_pure, hz.run, Result.andThen_ok, key _ h8]
  simp only [newRow, newObj]
  refine ⟨w.heap.size, trivial, rfl, ?_⟩
  refine hw.new (Kept.alloc [] w _) ?_ (by simp [rBlk]) (fun b hb => by rw [List.mem_singleton.1 hb]; exact Nat.le_refl _)
  show (w.alloc _).heap[w.heap.size]? = _
  rw [heap_alloc_new]
end
end Go.Proofs.YtgbhegmhbeekpaaGreat
