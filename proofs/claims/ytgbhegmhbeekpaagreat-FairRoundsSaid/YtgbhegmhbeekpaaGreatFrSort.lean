/-
  slices.SortFunc at structs of k cells, by the shelf, in the words of resources.
-/
import Derived.Test.YtgbhegmhbeekpaaGreatFrMap
import Derived.Shelf.SlSortCmp.NoneTotal

namespace Go.Proofs.YtgbhegmhbeekpaaGreat
open Go Go.Shelf Go.RowKit Go.Lib Go.Sort Go.Proofs

theorem kept_grow {w w' : World} (h : Kept [] w w') : ∃ q os, w' = grow (w.drewN q) os := by
  refine ⟨w'.drawn - w.drawn, w'.heap.extract w.heap.size w'.heap.size, ?_⟩
  have hd : w.drawn + (w'.drawn - w.drawn) = w'.drawn := by have := h.drawn; omega
  have hh : w.heap ++ w'.heap.extract w.heap.size w'.heap.size = w'.heap := by
    apply Array.ext_getElem?
    intro i
    rw [Array.getElem?_append]
    split
    · rename_i hi
      exact (h.blk i hi (by simp)).symm
    · rename_i hi
      rw [Array.getElem?_extract]
      have hs := h.size
      split
      · congr 1; omega
      · rename_i h2
        rw [Array.getElem?_eq_none]
        omega
  obtain ⟨heap, tape, drawn, os, output⟩ := w'
  have h1 := h.os; have h2 := h.tape; have h3 := h.output
  simp only at h1 h2 h3 hd hh
  subst h1; subst h2; subst h3
  unfold grow World.drewN
  simp only [hd, hh]

section
variable {α : Type} [Inhabited α] {enc : α → List Value} {k : Nat}
def fl (enc : α → List Value) (k : Nat) (d : List α) : List Value := (flatK enc k d.toArray).toList
theorem fl_len (d : List α) : (fl enc k d).length = d.length * k := by simp [fl]
theorem fl_get (d : List α) (hl : ∀ x, (enc x).length = k) {i j : Nat} (hi : i < d.length) (hj : j < k) : (fl enc k d)[i * k + j]? = (enc d[i])[j]? := by
  have hk : 0 < k := by omega
  have hlt : i * k + j < d.length * k := by
    have := Nat.mul_le_mul_right k (show i + 1 ≤ d.length from hi)
    rw [Nat.add_mul, Nat.one_mul] at this
    omega
  have e1 : (i * k + j) / k = i := by rw [Nat.add_comm, Nat.add_mul_div_right _ _ hk, Nat.div_eq_of_lt hj, Nat.zero_add]
  have e2 : (i * k + j) % k = j := by rw [Nat.add_comm, Nat.add_mul_mod_self_right, Nat.mod_eq_of_lt hj]
  have h1 := get_flatK enc k d.toArray (i * k + j) (by simpa using hlt)
  rw [e1, e2] at h1
  have hsz : i * k + j < (flatK enc k d.toArray).size := by simpa using hlt
  unfold fl
  rw [Array.getElem?_toList, Array.getElem?_eq_getElem hsz]
  rw [getElem!_pos (flatK enc k d.toArray) (i * k + j) hsz] at h1
  rw [h1]
  have hd : d.toArray[i]! = d[i] := by rw [getElem!_pos d.toArray i (by simpa using hi)]; simp
  rw [hd]
  have hj' : j < (enc d[i]).length := by rw [hl]; exact hj
  rw [getElem!_pos (enc d[i]) j hj', List.getElem?_eq_getElem hj']
theorem fl_chunk (d : List α) (hl : ∀ x, (enc x).length = k) {i : Nat} (hi : i < d.length) : ((fl enc k d).drop (i * k)).take k = enc d[i] := by
  apply List.ext_getElem?
  intro j
  rw [List.getElem?_take]
  split
  · rename_i hj
    rw [List.getElem?_drop, fl_get d hl hi hj]
  · rename_i hj
    rw [List.getElem?_eq_none (by rw [hl]; omega)]
theorem fl_eq (d : List α) (hl : ∀ x, (enc x).length = k) (cs : List Value) (hcs : cs.length = d.length * k) (h : ∀ i (hi : i < d.length), (cs.drop (i * k)).take k = enc d[i]) : fl enc k d = cs := by
  apply List.ext_getElem?
  intro t
  rcases Nat.lt_or_ge t (d.length * k) with ht | ht
  · have hk : 0 < k := by
      rcases Nat.eq_zero_or_pos k with h0 | h0
      · subst h0; omega
      · exact h0
    have hi : t / k < d.length := Nat.div_lt_of_lt_mul (by rw [Nat.mul_comm]; exact ht)
    have hj : t % k < k := Nat.mod_lt _ hk
    have e : t = t / k * k + t % k := by rw [Nat.mul_comm]; exact (Nat.div_add_mod t k).symm
    rw [e, fl_get d hl hi hj, ← h _ hi, List.getElem?_take, if_pos hj, List.getElem?_drop]
  · rw [List.getElem?_eq_none (by rw [fl_len]; exact ht), List.getElem?_eq_none (by omega)]
end

section
variable {P : Program} {l : LEnv} {C : Ctx} {own rest : List Res} {ats : List Atom} {o : Oper} {x y : Operand}

theorem l_sort {α : Type} [Inhabited α] {ρ : Ren} (L : SlLaysF0.n6 P ρ) {k : Nat} (hT : Ty P (ρ.t 24) true k) (enc : α → List Value) (hl : ∀ x, (enc x).length = k) (h1 : ∀ x, ∀ v ∈ enc x, v.oneCell' = true) (cf : α → α → Int) (hO : SWO (ltOf cf)) {f g : FuncId} {tys : Array TypeId}
    (hcmp : ∀ x y, Con P g #[.agg (enc x).toArray, .agg (enc y).toArray] [] [] (fun _ : Unit => True) (fun _ => .int .i64 (cf x y)) (fun _ => []) (fun _ => [])) (hf : f = ρ.f 6) (ef : Enters P f) (eg : Enters P g)
    {d : List α} (hd : d.length < 4611686018427387904) {e : TypeId} {v : Value} {own' : List α → List Res} (ho : o.op = .call { callee := .value (.func f), args := #[x, .func g], argTypes := tys }) (hx : opv l x = some v)
    (hp : ∀ d', Put own (rOwn e k v d.length (fl enc k d)) (rOwn e k v d.length (fl enc k d')) (own' d')) :
    Lo P o l C own ats (fun d' : List α => d'.Perm d ∧ d'.Pairwise (fun x y => ltOf cf y x = false)) (fun _ => .tuple #[]) own' (fun _ => ats) := by
  intro w hw r hr
  subst hf
  have hown : w.ownsRow 0 e k v d.length (fl enc k d) := hw.hp.has _ (hp []).mem
  have ef' : ∀ args w, (callFunc (ρ.f 6) args).run P w = .ok (.enter (ρ.f 6) args) w := ef
  have hfn : ∀ h, r (.func h) = .func (.func h) #[] #[] := fun h => hr (.func h) _ rfl
  have goal : Calls P (ρ.f 6) #[v, .func (.func g) #[] #[]] w fun e1 w' => e1 = .returned (.tuple #[]) ∧ ∃ d' : List α, (d'.Perm d ∧ d'.Pairwise (fun x y => ltOf cf y x = false)) ∧ St C (own' d') ats w' := by
    rcases hown.2 with ⟨rfl, h0⟩ | ⟨b, cap, cur, rfl, _, h2, h3, h4, h5, h6⟩
    · have : d = [] := List.eq_nil_of_length_eq_zero h0
      subst this
      refine (AnyF.slices_SortFunc_none (P := P) (ρ := ρ) L none 0 (.func (.func g) #[] #[]) w).mono ?_
      rintro e1 w' ⟨rfl, rfl⟩
      exact ⟨rfl, [], ⟨List.Perm.refl _, List.Pairwise.nil⟩, hw.put (hp []) (Kept.refl _ _) hown (by simp [rOwn, Value.ownBlock]) (fun b hb => .inl hb)⟩
    · have hH : HoldsK enc k w b 0 d.toArray := by
        intro j hj
        have hj' : j < d.length * k := by simpa using hj
        refine ⟨?_, by simp [World.frozen?, h2]⟩
        rw [Nat.zero_add, cell_of_row w b j cur e (0, 0) h2]
        have : (fl enc k d)[j]? = cur[j]? := by
          rw [← h6, List.getElem?_take, if_pos hj', Array.getElem?_toList]
        rw [← this]
        unfold fl
        rw [Array.getElem?_toList, Array.getElem?_eq_getElem hj]
        simp only [id]
        rw [getElem!_pos (flatK enc k d.toArray) j hj]
      have hblk : b < w.heap.size := (Array.getElem?_eq_some_iff.1 h2).1
      have hcl : CmpLays P g #[] enc k cf b 0 d.toArray.size w := by
        intro m os dk _ p q
        have := hcmp p q [] (sortWorldK enc k w b 0 m dk os) ⟨by simp, by simp [bks], by simp, by simp, by simp⟩
        refine this.mono ?_
        rintro e1 w' ⟨_, _, rfl, h7, _⟩
        exact ⟨rfl, kept_grow h7⟩
      have hs := AnyQ.slices_SortFunc L k (fun w => hT.run_agg w) (fun w => hT.run_size w) enc hl h1 cf hO g #[] b 0 cap d.toArray w eg hcl hH hblk (by simpa using hd)
      rw [show d.toArray.size = d.length from by simp] at hs
      refine hs.mono ?_
      rintro e1 w' ⟨rfl, d', n, os, hperm, hsorted, rfl⟩
      obtain ⟨hsz, _, hpe⟩ := hperm
      have hd'l : d'.size = d.length := by simpa using hsz
      have e1 : (d'.extract 0 d.length).toList = d'.toList := by rw [← hd'l]; simp
      have e2 : (d.toArray.extract 0 d.length).toList = d := by simp
      rw [e1, e2] at hpe
      have hFs : (flatK enc k d').size = d.length * k := by rw [size_flatK, hd'l]
      have hk2 : Kept [b] w (sortWorldK enc k w b 0 n d' os) := by
        refine ⟨by simp [sortWorldK, grow, putRowK, Go.Sort.ahead, putRow, mapBlock], fun i hi hn => ?_, rfl, rfl, rfl, Nat.le_add_right _ _⟩
        have hib : b ≠ i := fun h => hn (by simp [h])
        show ((w.heap.modify b _) ++ os)[i]? = _
        rw [Array.getElem?_append_left (by simpa using hi), Array.getElem?_modify, if_neg hib]
      have hblkv : (sortWorldK enc k w b 0 n d' os).heap[b]? = some (.cells (putCells id 0 (flatK enc k d') cur) e (0, 0)) := by
        show ((w.heap.modify b _) ++ os)[b]? = _
        rw [Array.getElem?_append_left (by simpa using hblk), Array.getElem?_modify, if_pos rfl]
        show Option.map _ w.heap[b]? = _
        rw [h2]
        rfl
      refine ⟨rfl, d'.toList, ⟨hpe, ?_⟩, hw.put (hp d'.toList) hk2 ⟨by rw [fl_len, Array.length_toList, hd'l], .inr ⟨b, cap, putCells id 0 (flatK enc k d') cur, rfl, Nat.zero_le _, hblkv, h3, h4, by simp [putCells, h5], ?_⟩⟩ (by simp [rOwn, Value.ownBlock]) (fun b hb => .inl hb)⟩
      · rw [List.pairwise_iff_getElem]
        intro i j hi hj hij
        have := hsorted i j (Nat.zero_le _) hij (by simpa [hd'l] using hj)
        simp only [Array.length_toList] at hi hj
        rw [getElem!_pos d' j hj, getElem!_pos d' i hi] at this
        simpa using this
      · unfold fl
        apply List.ext_getElem?
        intro t
        rw [List.getElem?_take]
        split
        · rename_i ht
          have htF : t < (flatK enc k d').size := by omega
          have htc : t < cur.size := by
            rw [h5]; exact Nat.lt_of_lt_of_le ht (Nat.mul_le_mul_right _ h3)
          rw [Array.getElem?_toList, Array.getElem?_toList]
          unfold putCells
          rw [Array.getElem?_mapIdx, Array.getElem?_eq_getElem htc]
          simp only [Option.map_some, Nat.zero_le, true_and, Nat.zero_add, Nat.sub_zero, id, htF, if_true]
          rw [getElem!_pos (flatK enc k d') t htF, Array.getElem?_eq_getElem htF]
        · rename_i ht
          rw [List.getElem?_eq_none]
          simp only [Array.length_toList, hFs]
          omega
  simp only [execOp, ho, resolve, hfn, upE, List.map_toArray, List.map_cons, List.map_nil, hr x _ hx, Deferred.ofValue]
  simp only [Sem.run_bind, Sem.run_pure, Result.andThen_ok, invoke, Array.empty_append, Array.append_empty, ef']
  refine goal.mono ?_
  rintro e1 w' ⟨h2, d', h3, h4⟩
  exact ⟨.tuple #[], h2, d', h3, rfl, h4⟩
end
end Go.Proofs.YtgbhegmhbeekpaaGreat
