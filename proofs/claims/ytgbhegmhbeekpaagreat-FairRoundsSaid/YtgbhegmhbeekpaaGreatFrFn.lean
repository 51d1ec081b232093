/-
  Function values; texts that are compared.
-/
import Derived.Test.YtgbhegmhbeekpaaGreatFrRows

namespace Go.Proofs.YtgbhegmhbeekpaaGreat
open Go
set_option linter.unusedVariables false

section
variable {P : Program} {l : LEnv} {S : World → Prop} {o : Oper} {x y : Operand}
theorem q_eql_string {T T' : TypeId} {a b : ByteArray} (ho : o.op = .binOp .eql T x y T') (ht : P.underlying T = some .string) (hx : opv l x = some (.string a)) (hy : opv l y = some (.string b)) : Qu P o l S (.bool (a.toList == b.toList)) := by
  intro w _ ρ hρ
  simp [execOp, ho, hρ x _ hx, hρ y _ hy, upE, eqGuard_at_string, binOp_string_eql]
theorem q_neq_string {T T' : TypeId} {a b : ByteArray} (ho : o.op = .binOp .neq T x y T') (ht : P.underlying T = some .string) (hx : opv l x = some (.string a)) (hy : opv l y = some (.string b)) : Qu P o l S (.bool (a.toList != b.toList)) := by
  intro w _ ρ hρ
  simp [execOp, ho, hρ x _ hx, hρ y _ hy, upE, eqGuard_at_string, go_sem, bne]
theorem q_min {ts : Array TypeId} {k : IntKind} {a b : Int} (ho : o.op = .call { callee := .builtin .min, args := #[x, y], argTypes := ts }) (hx : opv l x = some (.int k a)) (hy : opv l y = some (.int k b)) : Qu P o l S (.int k (if b < a then b else a)) := by
  intro w _ ρ hρ
  simp [execOp, ho, hρ x _ hx, hρ y _ hy, upE, resolve, invoke, builtin, run_min_int2]
theorem q_max {ts : Array TypeId} {k : IntKind} {a b : Int} (ho : o.op = .call { callee := .builtin .max, args := #[x, y], argTypes := ts }) (hx : opv l x = some (.int k a)) (hy : opv l y = some (.int k b)) : Qu P o l S (.int k (if a < b then b else a)) := by
  intro w _ ρ hρ
  simp [execOp, ho, hρ x _ hx, hρ y _ hy, upE, resolve, invoke, builtin, run_max_int2]
end

section
variable {P : Program} {l : LEnv} {C : Ctx} {own : List Res} {ats : List Atom} {o : Oper} {x : Operand}
/-- a call of a function value -/
theorem l_callF {f : FuncId} {cap : List Value} {args : Array Operand} {tys : Array TypeId} {vs : List Value} {rs rest : List Res} {pre : List Atom} {β : Type} {φ : β → Prop} {post : β → Value} {rs' : β → List Res} {as : β → List Atom}
    (ho : o.op = .call { callee := .value x, args := args, argTypes := tys }) (hf : opv l x = some (.func (.func f) #[] cap.toArray)) (he : Enters P f) (hv : vals l args.toList = some vs) (hc : Con P f (vs ++ cap).toArray rs pre φ post rs' as) (hp : Pick own rs rest) (ha : Ins pre ats) {own1 : β → List Res} {ats1 : β → List Atom} (h1 : ∀ y, App (rs' y) rest (own1 y)) (h2 : ∀ y, App (as y) ats (ats1 y)) :
    Lo P o l C own ats φ post own1 ats1 := by
  have e1 : own1 = fun y => rs' y ++ rest := funext fun y => (h1 y).eq.symm
  have e2 : ats1 = fun y => as y ++ ats := funext fun y => (h2 y).eq.symm
  subst e1; subst e2
  intro w hw ρ hρ
  have ea : args.map ρ = vs.toArray := by rw [← vals_map hρ hv, ← Array.toList_map, Array.toArray_toList]
  have he' : ∀ args w, (callFunc f args).run P w = .ok (.enter f args) w := he
  have hfn := hρ x _ hf
  have e3 : vs.toArray ++ cap.toArray = (vs ++ cap).toArray := by simp
  simp only [execOp, ho, resolve, hfn, ea, Deferred.ofValue, upE]
  simp only [Sem.run_bind, Sem.run_pure, Result.andThen_ok, invoke, Array.empty_append, e3, he']
  refine (St.call hc hw hp ha).mono ?_
  rintro e w' ⟨y, h1, h2, h3⟩
  exact ⟨post y, h2, y, h1, rfl, h3⟩
end
section
variable {P : Program} {l : LEnv} {C : Ctx} {own rest : List Res} {ats : List Atom} {K : LEnv → World → Prop} {o : Oper} {X : Value} {N : World → Prop}
/-- in a drawn region: only that resource is needed -/
theorem W_sel {ops : Array Oper} {i d : Nat} {p : Plan} {r : Res} (ho : ops[i]? = some o) (hs : Sel own r rest) (h : Qu P o l (St C [r] ats) X) (hg : wantd ops o l = some true) (hd : o.dst = some d)
    (hr : Wd P ops p ((d, X) :: l) (St C own ats) (fun w => N w ∧ St C [r] ats w) K) : Wd P ops (.quiet i p) l (St C own ats) N K := fun hN =>
  have f : ∀ w, St C own ats w → N w ∧ St C [r] ats w := fun w h => ⟨hN w h, h.weak hs.single fun _ hA => hA⟩
  ⟨o, ho, X, fun w => N w ∧ St C [r] ats w, f, fun _ h => h.1, fun w hw => stepL_of hg (h w hw.2), by rw [hd]; exact hr f⟩
end
section
variable {P : Program} {n : Nat} {l : LEnv} {C : Ctx} {own : List Res} {ats : List Atom} {Q : Exit → LEnv → World → Prop}
/-- a test whose outcome is known -/
theorem T_condT {c : Operand} {x y : Code} {b : Bool} (hc : opv l c = some (.bool b)) (hb : b = true) (h : T P n x l C own ats Q) : T P n (.cond c x y) l C own ats Q :=
  T_cond hc (fun _ => h) (fun hf => by rw [hb] at hf; cases hf)
theorem T_condF {c : Operand} {x y : Code} {b : Bool} (hc : opv l c = some (.bool b)) (hb : b = false) (h : T P n y l C own ats Q) : T P n (.cond c x y) l C own ats Q :=
  T_cond hc (fun ht => by rw [hb] at ht; cases ht) (fun _ => h)
end
theorem St.sealBE {C : Ctx} {own rest : List Res} {ats : List Atom} {w : World} {α : Type} (R : Rep α) {xs : List α} {g e n k : Nat} {cs : List Value} (h : St C own ats w) (hR : R.k = k) (hs : Sel own (rBlk g e cs) rest) (hk : 0 < k) (hl : cs.length = n * k) (hm : n ≤ maxLen) (he : In (aEv R xs cs) ats) :
    St C rest (aSl R xs (some ⟨g, 0, none⟩) n n :: ats) w := by
  subst hR
  refine h.sealB R hs hk hl hm ((aEv R xs cs).sub (h.atom he) fun b hb => ?_)
  simp only [List.mem_append] at hb ⊢
  exact hb.imp id fun h1 => (bks_sub hs.sub).subset h1
theorem EvP.one {α : Type} {R : Rep α} {M : List Nat} {w : World} {x : α} {cs : List Value} (h : R.p M w x cs) : EvP R M w [x] cs := EvP.snoc (EvP.nil R M w) h
theorem Pick.all : ∀ l : List Res, Pick l l []
  | [] => .nil
  | _ :: l => .cons .head (Pick.all l)
theorem In.of {A : Atom} : ∀ {l : List Atom}, A ∈ l → In A l
  | _ :: _, h => by
    rcases List.mem_cons.1 h with rfl | h
    · exact .head
    · exact .tail (In.of h)
theorem Ins.of : ∀ {as l : List Atom}, (∀ A ∈ as, A ∈ l) → Ins as l
  | [], _, _ => .nil
  | _ :: _, _, h => .cons (In.of (h _ (List.mem_cons_self ..))) (Ins.of fun A hA => h A (List.mem_cons_of_mem _ hA))
theorem App.all {α : Type} : ∀ a : List α, App a [] a
  | [] => .nil
  | _ :: a => .cons (App.all a)
end Go.Proofs.YtgbhegmhbeekpaaGreat
