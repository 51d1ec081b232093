/-
  What the ops do that go number by number; tensors of one way.
-/
import Derived.Test.YtgbhegmhbeekpaaGreatN3
namespace Go.Proofs.YtgbhegmhbeekpaaGreat
open Go
set_option linter.unusedVariables false

def wrap (x : Int) : Int := IntKind.i64.wrap x
/-- one number -/
def opV (op a b : Int) : Int :=
  if op = 4 then wrap (-a) else if op = 5 then (if a = 0 then 1 else 0) else if op = 6 then wrap (a + b) else if op = 7 then wrap (a - b) else if op = 8 then wrap (a * b)
  else if op = 9 then min a b else if op = 10 then max a b else if op = 11 then (if a < b then 1 else 0) else 0
def ptw (op : Int) (x y : Tn) : Tn := ⟨x.sh, List.zipWith (opV op) x.da y.da⟩
/-- a node that goes number by number -/
def evP : EvF := fun nd ins =>
  if nd.inn = [] ∧ nd.sh = [] ∧ nd.a = [] ∧ nd.n = 0 ∧ nd.how = 0 then
    match ins with
    | [x] => if (nd.op = 4 ∨ nd.op = 5) ∧ tnOk x = true then some (ptw nd.op x x) else none
    | [x, y] => if (6 ≤ nd.op ∧ nd.op ≤ 11) ∧ tnOk x = true ∧ tnOk y = true ∧ x.sh = y.sh then some (ptw nd.op x y) else none
    | _ => none
  else none

theorem T1.ok {t : Tn} (h : T1 t) : tnOk t = true := by
  obtain ⟨k, h1, h2, h3, h4⟩ := h
  have e1 : shOk [(k : Int)] = true := (shOk_iff _).2 ⟨by simp, by simp [dims]; omega, by simp [prodI]; omega⟩
  have e2 : szOf [(k : Int)] = k := by unfold szOf; rw [e1]; simp [prodI]
  unfold tnOk
  rw [h3, e1, e2, h4]
  simp
theorem T1.ptw {x y : Tn} (op : Int) (hx : T1 x) (hy : T1 y) (h : x.sh = y.sh) : T1 (ptw op x y) := by
  obtain ⟨k, h1, h2, h3, h4⟩ := hx
  obtain ⟨k', h1', h2', h3', h4'⟩ := hy
  have : k = k' := by rw [h3, h3'] at h; injection h with h; omega
  subst this
  exact ⟨k, h1, h2, h3, by simp [Go.Proofs.YtgbhegmhbeekpaaGreat.ptw, h4, h4']⟩
theorem ev1 {nd : Nd} {x : Tn} (h : nd.inn = [] ∧ nd.sh = [] ∧ nd.a = [] ∧ nd.n = 0 ∧ nd.how = 0) (ho : nd.op = 4 ∨ nd.op = 5) (hx : tnOk x = true) : evP nd [x] = some (ptw nd.op x x) := by
  unfold evP; rw [if_pos h]; simp only; rw [if_pos ⟨ho, hx⟩]
theorem ev2 {nd : Nd} {x y : Tn} (h : nd.inn = [] ∧ nd.sh = [] ∧ nd.a = [] ∧ nd.n = 0 ∧ nd.how = 0) (ho : 6 ≤ nd.op ∧ nd.op ≤ 11) (hx : tnOk x = true) (hy : tnOk y = true) (hs : x.sh = y.sh) : evP nd [x, y] = some (ptw nd.op x y) := by
  unfold evP; rw [if_pos h]; simp only; rw [if_pos ⟨ho, hx, hy, hs⟩]

/-! what the statements' maker has -/
def PLs (n : Nat) (es : List EvT) : List (List Inst) := (List.range n).map (progE es)
def RLs (n : Nat) (es : List EvT) : List (List (List Int)) := (List.range n).map fun d => (valE es d).map (·.sh)
def toMsgW (x : EvT) : Msg := ⟨x.d, x.i.dev, x.i.tag, ⟨x.v.sh, []⟩⟩
theorem progE_snoc (es : List EvT) (e : EvT) (d : Nat) : progE (es ++ [e]) d = if e.d = d then progE es d ++ [e.i] else progE es d := by
  unfold progE
  rw [evd_append, evd_one]
  by_cases h : e.d = d <;> simp [h]
theorem valE_snoc (es : List EvT) (e : EvT) (d : Nat) : valE (es ++ [e]) d = if e.d = d ∧ e.i.kind ≠ 3 then valE es d ++ [e.v] else valE es d := by
  unfold valE
  rw [evd_append, evd_one]
  by_cases h : e.d = d
  · rw [if_pos h, vsE_snoc]
    by_cases hk : e.i.kind = 3
    · rw [if_pos hk, if_neg (by simp [hk])]
    · rw [if_neg hk, if_pos ⟨h, hk⟩]
  · rw [if_neg h, if_neg (by simp [h]), List.append_nil]
theorem range_upd {α : Type} {n d : Nat} {f g : Nat → α} (hd : d < n) (h : ∀ x, x ≠ d → g x = f x) : (List.range n).map g = ((List.range n).map f).set d (g d) := by
  apply List.ext_getElem?
  intro i
  rw [List.getElem?_set, List.getElem?_map, List.getElem?_map]
  by_cases hi : i < n
  · rw [List.getElem?_range hi]
    by_cases e : d = i
    · subst e; simp [hd]
    · rw [if_neg e]; simp [h i (Ne.symm e)]
  · have : (List.range n)[i]? = none := by simp; omega
    rw [this]
    simp
    omega
theorem PLs_snoc {n : Nat} (es : List EvT) {e : EvT} (hd : e.d < n) : PLs n (es ++ [e]) = (PLs n es).set e.d ((PLs n es).getD e.d [] ++ [e.i]) := by
  unfold PLs
  rw [range_upd (f := progE es) hd fun x hx => by rw [progE_snoc, if_neg (Ne.symm hx)]]
  rw [progE_snoc, if_pos rfl]
  simp [List.getD_eq_getElem?_getD, hd]
theorem RLs_snoc {n : Nat} (es : List EvT) {e : EvT} (hd : e.d < n) (hk : e.i.kind ≠ 3) : RLs n (es ++ [e]) = (RLs n es).set e.d ((RLs n es).getD e.d [] ++ [e.v.sh]) := by
  unfold RLs
  rw [range_upd (f := fun d => (valE es d).map (·.sh)) hd fun x hx => by rw [valE_snoc, if_neg (by simp [Ne.symm hx])]]
  rw [valE_snoc, if_pos ⟨rfl, hk⟩]
  simp [List.getD_eq_getElem?_getD, hd]
theorem RLs_send {n : Nat} (es : List EvT) {e : EvT} (hk : e.i.kind = 3) : RLs n (es ++ [e]) = RLs n es := by
  unfold RLs
  refine List.map_congr_left fun d _ => ?_
  rw [valE_snoc, if_neg (by simp [hk])]
theorem PLs_len (n : Nat) (es : List EvT) : (PLs n es).length = n := by simp [PLs]
theorem RLs_len (n : Nat) (es : List EvT) : (RLs n es).length = n := by simp [RLs]
theorem PLs_get {n d : Nat} (es : List EvT) (hd : d < n) : (PLs n es).getD d [] = progE es d := by simp [PLs, List.getD_eq_getElem?_getD, hd]
theorem RLs_get {n d : Nat} (es : List EvT) (hd : d < n) : (RLs n es).getD d [] = (valE es d).map (·.sh) := by simp [RLs, List.getD_eq_getElem?_getD, hd]
theorem progE_len (es : List EvT) (d : Nat) : (progE es d).length ≤ es.length := by
  unfold progE evd; rw [List.length_map]; exact List.length_filter_le _ _
theorem valE_len (es : List EvT) (d : Nat) : (valE es d).length ≤ es.length := by
  unfold valE vsE evd; rw [List.length_map]
  exact Nat.le_trans (List.length_filter_le _ _) (List.length_filter_le _ _)
end Go.Proofs.YtgbhegmhbeekpaaGreat
