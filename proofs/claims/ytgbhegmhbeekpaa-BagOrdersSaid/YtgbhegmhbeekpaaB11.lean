/-
  Asks; the list beside the bag.
-/
import Derived.Test.YtgbhegmhbeekpaaB10
namespace Go.Proofs.Ytgbhegmhbeekpaa
open Go

structure Ask where
  kind : Int
  fr : Int
  to : Int
  tag : Int
  n : Int

def rAsk : Rep Ask where
  k := 5
  p _ _ x cs := cs = [.int .i64 x.kind, .int .i64 x.fr, .int .i64 x.to, .int .i64 x.tag, .int .i64 x.n]
  mov h _ _ := h
  len h := by rw [h]; rfl
  one h v hv := by
    rw [h] at hv
    simp only [List.mem_cons, List.not_mem_nil, or_false] at hv
    rcases hv with rfl | rfl | rfl | rfl | rfl <;> rfl

theorem Qu.eq {P : Program} {o : Oper} {l : LEnv} {S : World → Prop} {X Y : Value} (h : Qu P o l S X) (e : X = Y) : Qu P o l S Y := e ▸ h

section
variable {P : Program} {nn : Nat} {l : LEnv} {C : Ctx} {own : List Res} {ats : List Atom} {Q : Exit → LEnv → World → Prop} {K : LEnv → World → Prop}
theorem T_ask {cd : Code} {xs : List Ask} {a : Option Addr} {n c : Nat} (i : Nat) (hs : In (aSl rAsk xs a n c) ats) (hi : i < n)
    (h : ∀ x ad, xs[i]? = some x → ea a i 5 = some ad → T P nn cd l C own (aCells ad [.int .i64 x.kind, .int .i64 x.fr, .int .i64 x.to, .int .i64 x.tag, .int .i64 x.n] :: ats) Q) : T P nn cd l C own ats Q := by
  intro w hw
  have h1 : SlP rAsk _ _ _ _ _ _ := hw.atom hs
  have hx : i < xs.length := by have := h1.1; omega
  obtain ⟨ad, cs, e1, e2, e3⟩ := h1.el hi hx
  have e4 : cs = [.int .i64 xs[i].kind, .int .i64 xs[i].fr, .int .i64 xs[i].to, .int .i64 xs[i].tag, .int .i64 xs[i].n] := e3
  subst e4
  exact h xs[i] ad (List.getElem?_eq_getElem hx) e1 w (hw.know (aCells ad _) e2)
end

theorem mt_toMsg (p : Key3 × Tn) (fr to tag : Int) : mt fr to tag (toMsg p) = decide (p.1 = (fr, to, tag)) := by
  obtain ⟨⟨a, b, c⟩, t⟩ := p
  unfold mt toMsg
  simp only [Prod.mk.injEq]

/-- The list beside the bag finds what the bag finds. -/
theorem fnd_spec (B : List (Key3 × Tn)) (fr to tag : Int) (hn : (B.map (·.1)).Nodup) :
    (lkE B (fr, to, tag) = none ∧ fnd (B.map toMsg) fr to tag = -1) ∨
    ∃ (j : Nat) (x : Tn), lkE B (fr, to, tag) = some x ∧ fnd (B.map toMsg) fr to tag = j ∧ j < B.length ∧ (B.map toMsg)[j]? = some (toMsg ((fr, to, tag), x)) ∧ ((fr, to, tag), x) ∈ B ∧
      (delE B (fr, to, tag)).map toMsg = (B.map toMsg).take j ++ (B.map toMsg).drop (j + 1) := by
  cases h : lkE B (fr, to, tag) with
  | none =>
    refine .inl ⟨rfl, fnd_none fun j y hj hy => ?_⟩
    rw [List.getElem?_map] at hy
    cases hb : B[j]? with
    | none => rw [hb] at hy; cases hy
    | some p =>
      rw [hb] at hy
      injection hy with hy
      subst hy
      rw [mt_toMsg]
      have hm : p ∈ B := List.mem_of_getElem? hb
      by_cases e : p.1 = (fr, to, tag)
      · have := lkE_of_mem hn hm
        rw [e, h] at this
        cases this
      · simp [e]
  | some x =>
    unfold lkE at h
    rw [Option.map_eq_some_iff] at h
    obtain ⟨p, hp, hx⟩ := h
    subst hx
    have hpk : p.1 = (fr, to, tag) := by simpa using List.find?_some hp
    have hm := List.mem_of_find?_eq_some hp
    obtain ⟨j, hj, hjp⟩ := List.mem_iff_getElem.1 hm
    have hget : B[j]? = some p := by rw [List.getElem?_eq_getElem hj, hjp]
    have hpe : toMsg ((fr, to, tag), p.2) = toMsg p := by rw [← hpk]
    have hms : (B.map toMsg)[j]? = some (toMsg p) := by rw [List.getElem?_map, hget]; rfl
    have other : ∀ i (hi : i < B.length), i ≠ j → B[i].1 ≠ (fr, to, tag) := by
      intro i hi hne he
      have hpw := List.pairwise_iff_getElem.1 (List.nodup_iff_pairwise_ne.1 hn)
      have e2 : B[j].1 = (fr, to, tag) := by rw [hjp]; exact hpk
      rcases Nat.lt_or_ge i j with h1 | h1
      · exact absurd (by rw [List.getElem_map, List.getElem_map, he, e2]) (hpw i j (by simpa using hi) (by simpa using hj) h1)
      · exact absurd (by rw [List.getElem_map, List.getElem_map, he, e2]) (hpw j i (by simpa using hj) (by simpa using hi) (by omega))
    refine .inr ⟨j, p.2, rfl, fnd_some hms (by rw [mt_toMsg]; simpa using hpk) ?_, hj, by rw [hpe]; exact hms, by rw [← hpk]; exact hm, ?_⟩
    · intro i y hi hy
      have hi' : i < B.length := by omega
      rw [List.getElem?_map, List.getElem?_eq_getElem hi'] at hy
      injection hy with hy
      subst hy
      rw [mt_toMsg]
      simpa using other i hi' (by omega)
    · have hd : delE B (fr, to, tag) = B.take j ++ B.drop (j + 1) := by
        unfold delE
        have hsp : B = B.take j ++ (p :: B.drop (j + 1)) := by
          rw [← hjp, ← List.drop_eq_getElem_cons hj, List.take_append_drop]
        conv => lhs; rw [hsp]
        rw [List.filter_append, List.filter_cons_of_neg (by simpa using hpk)]
        congr 1
        · rw [List.filter_eq_self.2]
          intro q hq
          obtain ⟨i, hi, rfl⟩ := List.mem_iff_getElem.1 hq
          have hi' : i < j ∧ i < B.length := by simp at hi; omega
          rw [List.getElem_take]
          simpa using other i hi'.2 (by omega)
        · rw [List.filter_eq_self.2]
          intro q hq
          obtain ⟨i, hi, rfl⟩ := List.mem_iff_getElem.1 hq
          have hi' : j + 1 + i < B.length := by simp at hi; omega
          rw [List.getElem_drop]
          simpa using other (j + 1 + i) hi' (by omega)
      rw [hd, List.map_append, List.map_take, List.map_drop]

theorem bput_none {B : List (Key3 × Tn)} {k : Key3} {x : Tn} (h : lkE B k = none) : bput B k x = B ++ [(k, x)] := by unfold bput; rw [h]; rfl
theorem bput_some {B : List (Key3 × Tn)} {k : Key3} {x y : Tn} (h : lkE B k = some y) : bput B k x = B := by unfold bput; rw [h]; rfl
theorem delE_none {B : List (Key3 × Tn)} {k : Key3} (h : lkE B k = none) : delE B k = B := by
  unfold lkE at h
  rw [Option.map_eq_none_iff, List.find?_eq_none] at h
  unfold delE
  rw [List.filter_eq_self.2]
  intro p hp
  simpa using h p hp
theorem keys_put {B : List (Key3 × Tn)} {k : Key3} {x : Tn} (hn : (B.map (·.1)).Nodup) (h : lkE B k = none) : ((B ++ [(k, x)]).map (·.1)).Nodup := by
  rw [List.map_append, List.nodup_append]
  refine ⟨hn, by simp, fun a ha b hb e => ?_⟩
  obtain ⟨p, hp, rfl⟩ := List.mem_map.1 ha
  have hb' : b = k := by simpa using hb
  have := lkE_of_mem hn hp
  rw [e, hb', h] at this
  cases this
theorem keys_del {B : List (Key3 × Tn)} (k : Key3) (hn : (B.map (·.1)).Nodup) : ((delE B k).map (·.1)).Nodup := hn.sublist ((List.filter_sublist ..).map _)
theorem mem_del {B : List (Key3 × Tn)} {k : Key3} {p : Key3 × Tn} (h : p ∈ delE B k) : p ∈ B := (List.mem_filter.1 h).1
end Go.Proofs.Ytgbhegmhbeekpaa
