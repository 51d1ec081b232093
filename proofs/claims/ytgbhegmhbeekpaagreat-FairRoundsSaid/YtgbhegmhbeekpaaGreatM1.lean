/-
  Messages: how they lie; their order.
-/
import Derived.Test.YtgbhegmhbeekpaaGreatB3
namespace Go.Proofs.YtgbhegmhbeekpaaGreat
open Go
set_option maxRecDepth 100000

def rMsg : Rep Msg where
  k := 5
  p M w x cs := ∃ a n c b m d, cs = [.int .i64 x.fr, .int .i64 x.to, .int .i64 x.tag, .slice a n c, .slice b m d] ∧ SlP I M w x.t.sh a n c ∧ SlP I M w x.t.da b m d
  mov h k hM := let ⟨a, n, c, b, m, d, h1, h2, h3⟩ := h; ⟨a, n, c, b, m, d, h1, h2.mov k hM, h3.mov k hM⟩
  len h := by obtain ⟨a, n, c, b, m, d, h1, h2, h3⟩ := h; rw [h1]; rfl
  one h v hv := by
    obtain ⟨a, n, c, b, m, d, h1, h2, h3⟩ := h
    rw [h1] at hv
    simp only [List.mem_cons, List.not_mem_nil, or_false] at hv
    rcases hv with rfl | rfl | rfl | rfl | rfl <;> rfl

section
variable {P : Program} {nn : Nat} {l : LEnv} {C : Ctx} {own : List Res} {ats : List Atom} {Q : Exit → LEnv → World → Prop} {K : LEnv → World → Prop}

theorem St.msg {w : World} (h : St C own ats w) {xs : List Msg} {a : Option Addr} {n c i : Nat} (hs : In (aSl rMsg xs a n c) ats) (hi : i < n) :
    ∃ x ad pa pn pc qa qn qc, xs[i]? = some x ∧ ea a i 5 = some ad ∧ St C own (aCells ad [.int .i64 x.fr, .int .i64 x.to, .int .i64 x.tag, .slice pa pn pc, .slice qa qn qc] :: aSl I x.t.sh pa pn pc :: aSl I x.t.da qa qn qc :: ats) w := by
  have h1 : SlP rMsg _ _ _ _ _ _ := h.atom hs
  have hx : i < xs.length := by have := h1.1; omega
  obtain ⟨ad, cs, e1, e2, pa, pn, pc, qa, qn, qc, e3, e4, e5⟩ := h1.el hi hx
  subst e3
  exact ⟨xs[i], ad, pa, pn, pc, qa, qn, qc, List.getElem?_eq_getElem hx, e1, ((h.know (aSl I xs[i].t.da qa qn qc) e5).know (aSl I xs[i].t.sh pa pn pc) e4).know (aCells ad _) e2⟩

theorem T_msg {cd : Code} {xs : List Msg} {a : Option Addr} {n c : Nat} (i : Nat) (hs : In (aSl rMsg xs a n c) ats) (hi : i < n)
    (h : ∀ x ad pa pn pc qa qn qc, xs[i]? = some x → ea a i 5 = some ad → T P nn cd l C own (aCells ad [.int .i64 x.fr, .int .i64 x.to, .int .i64 x.tag, .slice pa pn pc, .slice qa qn qc] :: aSl I x.t.sh pa pn pc :: aSl I x.t.da qa qn qc :: ats) Q) : T P nn cd l C own ats Q := by
  intro w hw
  obtain ⟨x, ad, pa, pn, pc, qa, qn, qc, h1, h2, h3⟩ := hw.msg hs hi
  exact h x ad pa pn pc qa qn qc h1 h2 w h3
end

def later (x y : Msg) : Bool := if x.fr = y.fr then (if x.to = y.to then decide (y.tag < x.tag) else decide (y.to < x.to)) else decide (y.fr < x.fr)

def insK (out : List Msg) (x : Msg) : Nat → Nat
  | 0 => 0
  | k + 1 => match out[k]? with
    | some y => if later y x then insK out x k else k + 1
    | none => 0
theorem insK_le (out : List Msg) (x : Msg) : ∀ k, insK out x k ≤ k
  | 0 => Nat.le_refl _
  | k + 1 => by
    unfold insK
    split
    · split
      · exact Nat.le_trans (insK_le out x k) (Nat.le_succ _)
      · exact Nat.le_refl _
    · exact Nat.zero_le _
def ins (out : List Msg) (x : Msg) : List Msg := out.take (insK out x out.length) ++ [x] ++ out.drop (insK out x out.length)
def sorted (ms : List Msg) : List Msg := ms.foldl ins []
theorem ins_length (out : List Msg) (x : Msg) : (ins out x).length = out.length + 1 := by
  have := insK_le out x out.length
  simp [ins]; omega
theorem foldl_ins_length : ∀ (ms out : List Msg), (ms.foldl ins out).length = out.length + ms.length
  | [], out => by simp
  | x :: ms, out => by rw [List.foldl_cons, foldl_ins_length ms, ins_length]; simp; omega
theorem sorted_length (ms : List Msg) : (sorted ms).length = ms.length := by unfold sorted; rw [foldl_ins_length]; simp
theorem sorted_succ {ms : List Msg} {k : Nat} {x : Msg} (h : ms[k]? = some x) : sorted (ms.take (k + 1)) = ins (sorted (ms.take k)) x := by
  unfold sorted
  rw [List.take_add_one, h, List.foldl_append]
  rfl
end Go.Proofs.YtgbhegmhbeekpaaGreat
