/-
  Nodes and instructions: how they lie.
-/
import Derived.Test.YtgbhegmhbeekpaaGreatZ5
namespace Go.Proofs.YtgbhegmhbeekpaaGreat
open Go
set_option maxRecDepth 100000

structure Nd where
  op : Int
  inn : List Int
  sh : List Int
  a : List Int
  n : Int
  how : Int
  note : ByteArray

structure Inst where
  kind : Int
  out : Int
  inn : List Int
  node : Nd
  n : Int
  dev : Int
  tag : Int

def rNd : Rep Nd where
  k := 7
  p M w x cs := ∃ a1 n1 c1 a2 n2 c2 a3 n3 c3, cs = [.int .i64 x.op, .slice a1 n1 c1, .slice a2 n2 c2, .slice a3 n3 c3, .int .i64 x.n, .int .i64 x.how, .string x.note] ∧ SlP I M w x.inn a1 n1 c1 ∧ SlP I M w x.sh a2 n2 c2 ∧ SlP I M w x.a a3 n3 c3
  mov h k hM := let ⟨a1, n1, c1, a2, n2, c2, a3, n3, c3, h1, h2, h3, h4⟩ := h; ⟨a1, n1, c1, a2, n2, c2, a3, n3, c3, h1, h2.mov k hM, h3.mov k hM, h4.mov k hM⟩
  len h := by obtain ⟨_, _, _, _, _, _, _, _, _, h1, _⟩ := h; rw [h1]; rfl
  one h v hv := by
    obtain ⟨_, _, _, _, _, _, _, _, _, h1, _⟩ := h
    rw [h1] at hv
    simp only [List.mem_cons, List.not_mem_nil, or_false] at hv
    rcases hv with rfl | rfl | rfl | rfl | rfl | rfl | rfl <;> rfl

def rInst : Rep Inst where
  k := 13
  p M w x cs := ∃ a n c ns, cs = [.int .i64 x.kind, .int .i64 x.out, .slice a n c] ++ ns ++ [.int .i64 x.n, .int .i64 x.dev, .int .i64 x.tag] ∧ SlP I M w x.inn a n c ∧ rNd.p M w x.node ns
  mov h k hM := let ⟨a, n, c, ns, h1, h2, h3⟩ := h; ⟨a, n, c, ns, h1, h2.mov k hM, rNd.mov h3 k hM⟩
  len h := by obtain ⟨_, _, _, ns, h1, _, h3⟩ := h; have := rNd.len h3; rw [h1]; simp [this, rNd]
  one h v hv := by
    obtain ⟨_, _, _, ns, h1, _, h3⟩ := h
    rw [h1] at hv
    rcases List.mem_append.1 hv with hv | hv
    · rcases List.mem_append.1 hv with hv | hv
      · simp only [List.mem_cons, List.not_mem_nil, or_false] at hv
        rcases hv with rfl | rfl | rfl <;> rfl
      · exact rNd.one h3 v hv
    · simp only [List.mem_cons, List.not_mem_nil, or_false] at hv
      rcases hv with rfl | rfl | rfl <;> rfl

section
variable {P : Program} {nn : Nat} {l : LEnv} {C : Ctx} {own : List Res} {ats : List Atom} {Q : Exit → LEnv → World → Prop}
theorem T_inst {cd : Code} {xs : List Inst} {a : Option Addr} {n c : Nat} (i : Nat) (hs : In (aSl rInst xs a n c) ats) (hi : i < n)
    (h : ∀ x ad a0 n0 c0 a1 n1 c1 a2 n2 c2 a3 n3 c3, xs[i]? = some x → ea a i 13 = some ad →
      T P nn cd l C own (aCells ad [.int .i64 x.kind, .int .i64 x.out, .slice a0 n0 c0, .int .i64 x.node.op, .slice a1 n1 c1, .slice a2 n2 c2, .slice a3 n3 c3, .int .i64 x.node.n, .int .i64 x.node.how, .string x.node.note, .int .i64 x.n, .int .i64 x.dev, .int .i64 x.tag] ::
        aSl I x.inn a0 n0 c0 :: aSl I x.node.inn a1 n1 c1 :: aSl I x.node.sh a2 n2 c2 :: aSl I x.node.a a3 n3 c3 :: ats) Q) : T P nn cd l C own ats Q := by
  intro w hw
  have h1 : SlP rInst _ _ _ _ _ _ := hw.atom hs
  have hx : i < xs.length := by have := h1.1; omega
  obtain ⟨ad, cs, e1, e2, a0, n0, c0, ns, e3, e4, a1, n1, c1, a2, n2, c2, a3, n3, c3, e5, e6, e7, e8⟩ := h1.el hi hx
  subst e5; subst e3
  exact h xs[i] ad a0 n0 c0 a1 n1 c1 a2 n2 c2 a3 n3 c3 (List.getElem?_eq_getElem hx) e1 w
    (((((hw.know (aSl I xs[i].node.a a3 n3 c3) e8).know (aSl I xs[i].node.sh a2 n2 c2) e7).know (aSl I xs[i].node.inn a1 n1 c1) e6).know (aSl I xs[i].inn a0 n0 c0) e4).know (aCells ad _) e2)
end
end Go.Proofs.YtgbhegmhbeekpaaGreat
