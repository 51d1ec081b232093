/-
  One more instruction of a tape; programs of a tape.
-/
import Derived.Test.YtgbhegmhbeekpaaGreatZ7
namespace Go.Proofs.YtgbhegmhbeekpaaGreat
open Go
set_option maxRecDepth 100000

def nxtN (L : List Int) (i k : Nat) : Nat := (nxt L i k).1.toNat
def nxtP (L : List Int) (i k : Nat) : Nat := (nxt L i k).2
theorem nxtN_lt (L : List Int) (i k : Nat) (hk : 1 ≤ k) : nxtN L i k < k := by
  have := nxt_bounds L i k (by omega)
  unfold nxtN; omega
theorem c_NextN (L : List Int) (a : Option Addr) (n c g i k : Nat) (hk : 1 ≤ k) : Con Tryz.prog 54 #[.pointer (some ⟨g, 0, none⟩), .int .i64 k] [rBlk g 25 [.slice a n c, .int .i64 i]] [aSl I L a n c]
    (fun _ : Unit => True) (fun _ => .int .i64 (nxtN L i k : Nat)) (fun _ => [rBlk g 25 [.slice a n c, .int .i64 (nxtP L i k)]]) (fun _ => []) := by
  have h := c_Next L a n c g i k
  have e : (nxt L i k).1 = ((nxtN L i k : Nat) : Int) := by
    have := nxt_bounds L i k (by omega)
    unfold nxtN; omega
  rw [e] at h
  exact h

structure MkM where
  s : MkS
  p : Nat
  Ll : List RowT
  Lr : List RowT
  Lg : List RowT
  vw : Value
  cw : List Value
abbrev mkO (n gt g gl gr gg : Nat) (v : Value) (y : MkM) : List Res :=
  [rBlk gt 25 [v, .int .i64 y.p], rBlk g 96 [.slice (some ⟨gl, 0, none⟩) n n, .slice (some ⟨gr, 0, none⟩) n n, y.vw, .int .i64 y.s.tag],
   rBlk gl 63 (y.Ll.map (·.1)), rAll (y.Ll.map (rRow 112 13)), rBlk gr 86 (y.Lr.map (·.1)), rAll (y.Lr.map (rRow 22 1)),
   rOwn 131 5 y.vw y.s.W.length y.cw, rBlk gg 77 (y.Lg.map (·.1)), rAll (y.Lg.map (rRow 28 2))]
abbrev mkF (n : Nat) (y : MkM) : List Atom := [aEvs rInst (PLs n y.s.es) y.Ll, aEvs (rSl I) (RLs n y.s.es) y.Lr, aEv rMsg (y.s.W.map toMsgW) y.cw, aEvs rTn y.s.given y.Lg]

theorem sz1 (r : Nat) (h : r ≤ 2) : (szOf [1 + (r : Int)]).toNat = 1 + r := by
  have e1 : shOk [1 + (r : Int)] = true := (shOk_iff _).2 ⟨by simp, by simp [dims]; omega, by simp [prodI]; omega⟩
  unfold szOf; rw [e1]; simp [prodI]; omega

theorem sames_get (sh : List (List Int)) (s : List Int) (n : Nat) {j : Nat} (hj : j < (sames sh s n).length) : ∃ b : Nat, (sames sh s n).getD j 0 = (b : Int) ∧ b < n ∧ sh[b]? = some s := by
  have hm : (sames sh s n).getD j 0 ∈ sames sh s n := by
    rw [List.getD_eq_getElem?_getD, List.getElem?_eq_getElem hj]; exact List.getElem_mem hj
  unfold sames at hm
  obtain ⟨b, hb, he⟩ := List.mem_map.1 hm
  obtain ⟨h1, h2⟩ := List.mem_filter.1 hb
  exact ⟨b, he.symm, List.mem_range.1 h1, by simpa using h2⟩
theorem sames_pos (sh : List (List Int)) (s : List Int) (n : Nat) {a : Nat} (ha : a < n) (hs : sh[a]? = some s) : 1 ≤ (sames sh s n).length := by
  have : (a : Int) ∈ sames sh s n := List.mem_map.2 ⟨a, List.mem_filter.2 ⟨List.mem_range.2 ha, by simpa using hs⟩, rfl⟩
  exact List.length_pos_of_mem this

theorem c_mstep (L : List Int) (a : Option Addr) (ln lc n gt g gl gr gg d : Nat) (y : MkM) (hK : KInv evP n y.s) (hd : d < n) (hn : n ≤ 8) (hl : y.s.es.length ≤ 900) :
    Con Tryz.prog 55 #[.pointer (some ⟨g, 0, none⟩), .pointer (some ⟨gt, 0, none⟩), .int .i64 d, .pointer (some ⟨gg, d, none⟩)]
    (mkO n gt g gl gr gg (.slice a ln lc) y) (aSl I L a ln lc :: mkF n y)
    (fun z : MkM => KInv evP n z.s ∧ z.s.es.length ≤ y.s.es.length + 1) (fun _ => .tuple #[]) (fun z => mkO n gt g gl gr gg (.slice a ln lc) z) (fun z => mkF n z) := by
  refine con_of (n := 180) Tryz.func55 rfl rfl rfl (by simp) ?_
  intro C hC
  obtain ⟨s, p, Ll, Lr, Lg, vw, cw⟩ := y
  replace hK : KInv evP n s := hK
  replace hl : s.es.length ≤ 900 := hl
  refine T_slice (e := 131) (k := 5) (v := vw) (n := s.W.length) (cs := cw) (by repeat (first | with_reducible exact Sel.head | apply Sel.tail)) fun wa wc hv => ?_
  subst hv
  obtain ⟨m, hm⟩ : ∃ m, m = (valE s.es d).length := ⟨_, rfl⟩
  obtain ⟨K, hKn⟩ : ∃ K, K = (Gf s.given d).length := ⟨_, rfl⟩
  refine T_pure (φ := (∃ ra rc ds, Lr[d]? = some (.slice ra m rc, m, ds) ∧ (0 < m → ∃ gq, ra = some ⟨gq, 0, none⟩)) ∧ (∃ ga gc cs, Lg[d]? = some (.slice ga K gc, K, cs))) (fun w h => ?_) (fun hx => ?_)
  · obtain ⟨Q, v, ds, q1, q2⟩ := evs_row (d := d) h (xss := RLs n s.es) (L := Lr) (by repeat (first | with_reducible exact In.head | apply In.tail)) (by rw [RLs_len]; exact hd)
    obtain ⟨G, v', cs, q3, q4⟩ := evs_row (d := d) h (xss := s.given) (L := Lg) (by repeat (first | with_reducible exact In.head | apply In.tail)) (by rw [hK.glen]; exact hd)
    have eQ : Q.length = m := by
      have := RLs_get s.es hd
      rw [List.getD_eq_getElem?_getD, q1] at this
      have h2 : Q = (valE s.es d).map (·.sh) := this
      rw [h2, List.length_map, hm]
    have eG : G.length = K := by rw [hKn]; unfold Gf; rw [List.getD_eq_getElem?_getD, q3]; rfl
    rw [eQ] at q2; rw [eG] at q4
    obtain ⟨ra, rc, rfl⟩ := h.rowSlice (e := 22) (k := 1) (L := Lr) (by repeat (first | with_reducible exact Sel.head | apply Sel.tail)) q2
    obtain ⟨ga, gc, rfl⟩ := h.rowSlice (e := 28) (k := 2) (L := Lg) (by repeat (first | with_reducible exact Sel.head | apply Sel.tail)) q4
    refine ⟨⟨ra, rc, ds, q2, fun h0 => ?_⟩, ga, gc, cs, q4⟩
    obtain ⟨gq, c', hq⟩ := h.rowBlk (e := 22) (k := 1) (L := Lr) (by repeat (first | with_reducible exact Sel.head | apply Sel.tail)) q2 h0
    injection hq with hq _ _
    exact ⟨gq, hq⟩
  obtain ⟨⟨ra, rc, ds, hLr, hra⟩, ga, gc, gcs, hLg⟩ := hx
  have hm900 : m ≤ 900 := by have := valE_len s.es d; omega
  have hQ : (RLs n s.es)[d]? = some ((valE s.es d).map (·.sh)) := by simp [RLs, hd]
  have hPg := PLs_get s.es hd
  have hRg := RLs_get s.es hd
  have hPlen : ((PLs n s.es).getD d []).length ≤ 100000 := by rw [hPg]; have := progE_len s.es d; omega
  have hRlen : ((RLs n s.es).getD d []).length ≤ 100000 := by rw [hRg, List.length_map, ← hm]; omega
  have hRm : ((RLs n s.es).getD d []).length = (valE s.es d).length := by rw [hRg, List.length_map]
  have hgl : d < s.given.length := by rw [hK.glen]; exact hd
  have hGd : s.given[d]? = some (Gf s.given d) := by unfold Gf; rw [List.getD_eq_getElem?_getD, List.getElem?_eq_getElem hgl]; rfl
  have hK900 : K ≤ 900 := by rw [hKn]; exact Nat.le_trans (hK.gb _ (List.mem_of_getElem? hGd)) hl
  refine T_seq (T_reg rfl ?_)
  refine V_q (q_mov rfl rfl) rfl rfl ?_
  refine V_q (q_nil rfl rfl) rfl rfl ?_
  refine V_q (q_fa rfl fd96_1 rfl) rfl rfl ?_
  refine V_q (q_ld rfl ty94 rfl (by repeat (first | with_reducible exact Sel.head | apply Sel.tail)) rfl) rfl rfl ?_
  refine V_q (q_mov rfl rfl) rfl rfl ?_
  refine V_q (q_ia1 rfl Tryz.underlying94 ty86 rfl rfl hd) rfl rfl ?_
  refine V_q (q_ld rfl ty86 rfl (by repeat (first | with_reducible exact Sel.head | apply Sel.tail)) (nth_row hLr)) rfl rfl ?_
  refine V_q (q_len rfl Tryz.underlying86 rfl) rfl rfl ?_
  refine V_q (q_asg rfl rfl) rfl rfl ?_
  refine V_next (fun _ => rfl) ?_
  refine T_seq (T_reg rfl ?_)
  refine V_q (q_mov rfl rfl) rfl rfl ?_
  refine V_l (l_call rfl ent54 rfl (c_NextN L a ln lc gt p 6 (by omega)) (by repeat (first | with_reducible exact Pick.nil | apply Pick.cons (by repeat (first | with_reducible exact Sel.head | apply Sel.tail)))) (by repeat (first | with_reducible exact Ins.nil | refine Ins.cons (by repeat (first | with_reducible exact In.head | apply In.tail)) ?_)) (fun _ => (by repeat (first | with_reducible exact App.nil | apply App.cons))) (fun _ => (by repeat (first | with_reducible exact App.nil | apply App.cons)))) rfl rfl ?_; rintro g24 -
  refine V_q (q_asg rfl rfl) rfl rfl ?_
  refine V_next (fun _ => rfl) ?_
  have hk6 := nxtN_lt L p 6 (by omega)
  obtain ⟨kk, hkk⟩ : ∃ kk, kk = nxtN L p 6 := ⟨_, rfl⟩
  rw [← hkk] at hk6 ⊢
  obtain ⟨p1, hp1⟩ : ∃ p1, p1 = nxtP L p 6 := ⟨_, rfl⟩
  rw [← hp1]
  refine T_cut (fun _ : Unit => [(0, .pointer (some ⟨g, 0, none⟩)), (1, .pointer (some ⟨gt, 0, none⟩)), (2, .int .i64 d), (3, .pointer (some ⟨gg, d, none⟩)), (8, .int .i64 m), (9, .int .i64 kk)]) (fun _ => mkO n gt g gl gr gg (.slice a ln lc) ⟨s, p1, Ll, Lr, Lg, .slice wa s.W.length wc, cw⟩) (fun _ => aSl I L a ln lc :: mkF n ⟨s, p1, Ll, Lr, Lg, .slice wa s.W.length wc, cw⟩) (fun _ => 0 < m ∧ kk ≠ 0) ?_ ?_
  · have hLgl : d < Lg.length := (List.getElem?_eq_some_iff.1 hLg).1
    have hLg2 : ∀ v cs, (Lg.set d (v, K + 1, cs))[d]? = some (v, K + 1, cs) := fun v cs => by rw [List.getElem?_set_self hLgl]
    by_cases hm0 : m = 0
    · refine T_seq (T_reg rfl ?_)
      refine V_q (q_mov rfl rfl) rfl rfl ?_
      refine V_q (q_eq rfl rfl rfl) rfl rfl ?_
      rw [decide_eq_true (show (m : Int) = 0 by omega)]
      refine V_q (q_mov rfl rfl) rfl rfl ?_
      refine V_skip rfl rfl ?_
      refine V_skip rfl rfl ?_
      refine V_q (q_pick rfl rfl rfl rfl) rfl rfl ?_
      refine V_next (fun _ => rfl) ?_
      refine T_cond rfl (fun hb => ?_) (fun hb => ?_)
      · have hr3 := nxtN_lt L p1 3 (by omega)
        refine T_seq (T_reg rfl ?_)
        refine V_q (q_mov rfl rfl) rfl rfl ?_
        refine V_q (q_mov rfl rfl) rfl rfl ?_
        refine V_l (l_call rfl ent54 rfl (c_NextN L a ln lc gt p1 3 (by omega)) (by repeat (first | with_reducible exact Pick.nil | apply Pick.cons (by repeat (first | with_reducible exact Sel.head | apply Sel.tail)))) (by repeat (first | with_reducible exact Ins.nil | refine Ins.cons (by repeat (first | with_reducible exact In.head | apply In.tail)) ?_)) (fun _ => (by repeat (first | with_reducible exact App.nil | apply App.cons))) (fun _ => (by repeat (first | with_reducible exact App.nil | apply App.cons)))) rfl rfl ?_; rintro g33 -
        refine V_q (q_addI rfl rfl rfl (by omega)) rfl rfl ?_
        refine V_l (l_bs [.int .i64 0] rfl Tryz.underlying22 ty3 tz3 (by decide) rfl rfl rfl (by repeat (first | exact FillL.nil | apply FillL.cons rfl rfl (by repeat (first | exact PutL.z | apply PutL.s | apply PutL.t))))) rfl rfl ?_; rintro g35 -
        obtain ⟨r, hr⟩ : ∃ r, r = nxtN L p1 3 := ⟨_, rfl⟩
        rw [← hr] at hr3 ⊢
        obtain ⟨p2, hp2⟩ : ∃ p2, p2 = nxtP L p1 3 := ⟨_, rfl⟩
        rw [← hp2]
        have hsz := sz1 r (by omega)
        refine V_ghost (fun w h => h.sealI (k := .i64) (n := 1) (cs := [.int .i64 (1 + (r : Int))]) [1 + (r : Int)] (by repeat (first | with_reducible exact Sel.head | apply Sel.tail)) rfl rfl (by decide)) ?_
        refine V_l (l_call rfl ent48 rfl (c_Tensor L [1 + (r : Int)] a (some ⟨g35, 0, none⟩) ln lc 1 1 gt p2 (by omega)) (by repeat (first | with_reducible exact Pick.nil | apply Pick.cons (by repeat (first | with_reducible exact Sel.head | apply Sel.tail)))) (by repeat (first | with_reducible exact Ins.nil | refine Ins.cons (by repeat (first | with_reducible exact In.head | apply In.tail)) ?_)) (fun _ => (by repeat (first | with_reducible exact App.nil | apply App.cons))) (fun _ => (by repeat (first | with_reducible exact App.nil | apply App.cons)))) rfl rfl ?_; rintro ⟨⟨xa, xc⟩, ya, yc⟩ -
        refine V_l (l_alloc (cs := [.slice none 0 0, .slice none 0 0]) rfl tz28 rfl) rfl rfl ?_; rintro g10 -
        refine V_n (l_st rfl ty28 rfl rfl rfl rfl rfl (by repeat (first | with_reducible exact Put.head | apply Put.tail)) (by repeat (first | exact PutL.z | apply PutL.s | apply PutL.t))) rfl rfl ?_; rintro ⟨⟩ -
        refine V_next (fun _ => rfl) ?_
        rw [hsz]
        refine T_ghost (fun w h => h.rowOut (L := Lg) (by repeat (first | with_reducible exact Sel.head | apply Sel.tail)) hLg) ?_
        refine T_seq (T_drawn hmix (.pure 0 <| .pure 1 <| .pure 2 <| .quiet 3 <| .quiet 4 <| .loud 5 <| .loud 6 <| .pure 7 <| .bar 8 <| .fin) (by decide +kernel) ?_)
        refine W_p rfl (q_mov rfl rfl) rfl rfl ?_
        refine W_p rfl (q_mov rfl rfl) rfl rfl ?_
        refine W_p rfl (q_nil rfl rfl) rfl rfl ?_
        refine W_ld rfl rfl ty77 rfl (by repeat (first | with_reducible exact Sel.head | apply Sel.tail)) (nth_row hLg) rfl rfl ?_
        refine W_ldA rfl rfl ty28 rfl (by repeat (first | with_reducible exact Sel.head | apply Sel.tail)) (by repeat (first | exact SubL.z | apply SubL.s | apply SubL.t)) rfl rfl ?_
        refine W_l rfl (l_bs [.slice none 0 0, .slice none 0 0] rfl Tryz.underlying77 ty28 tz28 (by decide) rfl rfl rfl (by repeat (first | exact FillL.nil | apply FillL.cons rfl rfl (by repeat (first | exact PutL.z | apply PutL.s | apply PutL.t))))) (fun _ _ h => by repeat (first | exact trivial | refine ⟨?_, h.weak (by repeat (first | exact List.Sublist.refl _ | exact List.nil_sublist _ | with_reducible apply List.Sublist.cons_cons | apply List.Sublist.cons)) (by simp +contextual)⟩)) rfl rfl ?_; rintro g42 -
        refine W_l rfl (l_appBs rfl Tryz.underlying77 ty28 tz28 tb28 rfl (by decide) rfl rfl (by repeat (first | with_reducible exact Sel.head | apply Sel.tail)) (fun _ => (by repeat (first | with_reducible exact Put.head | apply Put.tail))) rfl rfl (by simp [maxLen]; omega) (by first | omega | (simp; omega))) (fun _ _ h => by repeat (first | exact trivial | refine ⟨?_, h.weak (by repeat (first | exact List.Sublist.refl _ | exact List.nil_sublist _ | with_reducible apply List.Sublist.cons_cons | apply List.Sublist.cons)) (by simp +contextual)⟩)) rfl rfl ?_; rintro ⟨na, nc⟩ -
        refine W_p rfl (q_nil rfl rfl) rfl rfl ?_
        refine W_bn rfl (l_st rfl ty77 rfl rfl rfl rfl rfl (by repeat (first | with_reducible exact Put.head | apply Put.tail)) (putL_set _ d _ (by simp; omega))) rfl rfl ?_; rintro ⟨⟩ -
        refine W_next (fun _ => rfl) ?_
        refine T_ghost (fun w h => h.rowBack (L := Lg) (i := d) (e := 28) (k := 2) (by omega) (by repeat (first | with_reducible exact Pick.nil | apply Pick.cons (by repeat (first | with_reducible exact Sel.head | apply Sel.tail))))) ?_
        rw [set_row Lg d (.slice na (K + 1) nc) (K + 1) (gcs ++ [.slice xa 1 xc, .slice ya (1 + r) yc])]
        refine T_ghost (fun w h => h.nil I) ?_
        refine T_seq (T_drawn hmix (.pure 0 <| .pure 1 <| .pure 2 <| .pure 3 <| .quiet 4 <| .pure 5 <| .pure 6 <| .pure 7 <| .pure 8 <| .quiet 9 <| .loud 10 <| .fin) (by decide +kernel) ?_)
        refine W_p rfl (q_mov rfl rfl) rfl rfl ?_
        refine W_p rfl (q_mov rfl rfl) rfl rfl ?_
        refine W_p rfl (q_mov rfl rfl) rfl rfl ?_
        refine W_p rfl (q_nil rfl rfl) rfl rfl ?_
        refine W_ld rfl rfl ty77 rfl (by repeat (first | with_reducible exact Sel.head | apply Sel.tail)) (nth_row (hLg2 _ _)) rfl rfl ?_
        refine W_p rfl (q_len rfl Tryz.underlying77 rfl) rfl rfl ?_
        refine W_p rfl (q_subE (K : Int) rfl rfl rfl (by omega) (by omega)) rfl rfl ?_
        refine W_p rfl (q_buildS rfl pl112 tz112 rfl rfl (by repeat (first | exact FillL.nil | apply FillL.cons rfl rfl (by repeat (first | exact PutL.z | apply PutL.s | apply PutL.t))))) rfl rfl ?_
        refine W_p rfl (q_fa rfl fd28_0 rfl) rfl rfl ?_
        refine W_ld rfl rfl ty22 rfl (by repeat (first | with_reducible exact Sel.head | apply Sel.tail)) rfl rfl rfl ?_
        refine W_l rfl (l_call rfl ent82 rfl (c_mputR (PLs n s.es) (RLs n s.es) Ll Lr g gl gr n d (.slice wa s.W.length wc) (.int .i64 s.tag) ⟨1, 0, [], nd0, K, 0, 0⟩ [1 + (r : Int)] none none none none xa 0 0 0 0 0 0 0 0 1 xc hd (PLs_len n _) (RLs_len n _) (by show ¬ ((1 : Int) = 3); decide) hPlen hRlen) (by repeat (first | with_reducible exact Pick.nil | apply Pick.cons (by repeat (first | with_reducible exact Sel.head | apply Sel.tail)))) (by repeat (first | with_reducible exact Ins.nil | refine Ins.cons (by repeat (first | with_reducible exact In.head | apply In.tail)) ?_)) (fun _ => (by repeat (first | with_reducible exact App.nil | apply App.cons))) (fun _ => (by repeat (first | with_reducible exact App.nil | apply App.cons)))) (fun _ _ h => by repeat (first | exact trivial | refine ⟨?_, h.weak (by repeat (first | exact List.Sublist.refl _ | exact List.nil_sublist _ | with_reducible apply List.Sublist.cons_cons | apply List.Sublist.cons)) (by simp +contextual)⟩)) rfl rfl ?_; rintro ⟨Ll', Lr'⟩ -
        refine W_next (fun _ => rfl) ?_
        refine T_ret fun w h => ?_
        rw [hRm] at h
        obtain ⟨x, hx⟩ : ∃ x : Tn, x = ⟨[1 + (r : Int)], (nums L p2 (1 + r)).1⟩ := ⟨_, rfl⟩
        have hxT : T1 x := ⟨1 + r, by omega, by omega, by rw [hx]; simp, by rw [hx]; exact nums_len L p2 (1 + r)⟩
        obtain ⟨e, he⟩ : ∃ e : EvT, e = ⟨d, ⟨1, ((valE s.es d).length : Nat), [], nd0, K, 0, 0⟩, x⟩ := ⟨_, rfl⟩
        have hed : e.d = d := by rw [he]
        have hek : e.i.kind = 1 := by rw [he]
        have f1 := PLs_snoc (n := n) s.es (e := e) (by rw [hed]; exact hd)
        have f2 := RLs_snoc (n := n) s.es (e := e) (by rw [hed]; exact hd) (by omega)
        have ex : e.v.sh = [1 + (r : Int)] := by rw [he, hx]
        have ei : e.i = ⟨1, ((valE s.es d).length : Nat), [], nd0, K, 0, 0⟩ := by rw [he]
        rw [hed, ex] at f2
        rw [hed, ei] at f1
        have g0 := h.know (aEvs (rSl I) (RLs n (s.es ++ [e])) Lr') (by rw [f2]; exact h.atom In.head.tail)
        have g1 := g0.know (aEvs rInst (PLs n (s.es ++ [e])) Ll') (by rw [f1]; exact g0.atom In.head.tail)
        have q1 : EvsP rTn _ w s.given Lg := g1.atom (A := aEvs rTn s.given Lg) (by repeat (first | with_reducible exact In.head | apply In.tail))
        have k1 : EvP rTn _ w (Gf s.given d ++ [x]) _ := (q1.2 d _ _ hGd hLg).1.snoc (c1 := [.slice xa 1 xc, .slice ya (1 + r) yc]) ⟨xa, 1, xc, ya, 1 + r, yc, rfl, by rw [hx]; exact g1.atom (A := aSl I [1 + (r : Int)] xa 1 xc) (by repeat (first | with_reducible exact In.head | apply In.tail)), by rw [hx]; exact g1.atom (A := aSl I (nums L p2 (1 + r)).1 ya (1 + r) yc) (by repeat (first | with_reducible exact In.head | apply In.tail))⟩
        have g2 := g1.know (aEvs _ _ _) (q1.set d (v := .slice na (K + 1) nc) (n := K + 1) (by simp [hKn]) k1)
        have hK2 : KInv evP n ⟨s.es ++ [e], s.W, s.tag, s.given.set d (Gf s.given d ++ [x])⟩ := by
          refine hK.plain (.inl hek) (.take (by rw [hed]; exact hd) hek (by rw [ei]; exact Int.natCast_nonneg _) ?_ (by rw [ei, hed])) (fun y j v hv => Gf_grow hgl y j v hv) (by simp [hK.glen]) ?_ ?_ (by rw [he]; exact hxT) (by rw [ei]; exact .inl ⟨rfl, rfl, ⟨rfl, rfl, rfl, rfl, rfl, rfl, rfl⟩, rfl, rfl⟩)
          · rw [hed, Gf_set hgl, if_pos rfl, ei]
            show (_ ++ _)[((K : Nat) : Int).toNat]? = _
            rw [Int.toNat_natCast, hKn, List.getElem?_append_right (Nat.le_refl _), he]
            simp
          · intro l hl t ht
            rcases List.mem_or_eq_of_mem_set hl with h1 | h1
            · exact hK.gt l h1 t ht
            · rw [h1] at ht
              rcases List.mem_append.1 ht with h2 | h2
              · exact hK.gt _ (List.mem_of_getElem? hGd) t h2
              · rw [List.mem_singleton.1 h2]; exact hxT
          · intro l hl
            rcases List.mem_or_eq_of_mem_set hl with h1 | h1
            · exact Nat.le_trans (hK.gb l h1) (Nat.le_succ _)
            · rw [h1, List.length_append]
              exact Nat.succ_le_succ (hK.gb _ (List.mem_of_getElem? hGd))
        exact ⟨_, res_0, ⟨⟨s.es ++ [e], s.W, s.tag, s.given.set d (Gf s.given d ++ [x])⟩, _, Ll', Lr', _, .slice wa s.W.length wc, cw⟩, ⟨hK2, by show (s.es ++ [e]).length ≤ s.es.length + 1; simp⟩, rfl, g2.pick (by repeat (first | with_reducible exact Pick.nil | apply Pick.cons (by repeat (first | with_reducible exact Sel.head | apply Sel.tail)))) (by simp)⟩
      · cases hb
    refine T_seq (T_reg rfl ?_)
    refine V_q (q_mov rfl rfl) rfl rfl ?_
    refine V_q (q_eq rfl rfl rfl) rfl rfl ?_
    rw [decide_eq_false (show ¬ (m : Int) = 0 by omega)]
    refine V_q (q_mov rfl rfl) rfl rfl ?_
    refine V_want (q_mov rfl rfl) rfl rfl ?_
    refine V_want (q_eq rfl rfl rfl) rfl rfl ?_
    refine V_q (q_pick rfl rfl rfl rfl) rfl rfl ?_
    refine V_next (fun _ => rfl) ?_
    refine T_cond rfl (fun hb => ?_) (fun hb => ?_)
    · have hr3 := nxtN_lt L p1 3 (by omega)
      refine T_seq (T_reg rfl ?_)
      refine V_q (q_mov rfl rfl) rfl rfl ?_
      refine V_q (q_mov rfl rfl) rfl rfl ?_
      refine V_l (l_call rfl ent54 rfl (c_NextN L a ln lc gt p1 3 (by omega)) (by repeat (first | with_reducible exact Pick.nil | apply Pick.cons (by repeat (first | with_reducible exact Sel.head | apply Sel.tail)))) (by repeat (first | with_reducible exact Ins.nil | refine Ins.cons (by repeat (first | with_reducible exact In.head | apply In.tail)) ?_)) (fun _ => (by repeat (first | with_reducible exact App.nil | apply App.cons))) (fun _ => (by repeat (first | with_reducible exact App.nil | apply App.cons)))) rfl rfl ?_; rintro g33 -
      refine V_q (q_addI rfl rfl rfl (by omega)) rfl rfl ?_
      refine V_l (l_bs [.int .i64 0] rfl Tryz.underlying22 ty3 tz3 (by decide) rfl rfl rfl (by repeat (first | exact FillL.nil | apply FillL.cons rfl rfl (by repeat (first | exact PutL.z | apply PutL.s | apply PutL.t))))) rfl rfl ?_; rintro g35 -
      obtain ⟨r, hr⟩ : ∃ r, r = nxtN L p1 3 := ⟨_, rfl⟩
      rw [← hr] at hr3 ⊢
      obtain ⟨p2, hp2⟩ : ∃ p2, p2 = nxtP L p1 3 := ⟨_, rfl⟩
      rw [← hp2]
      have hsz := sz1 r (by omega)
      refine V_ghost (fun w h => h.sealI (k := .i64) (n := 1) (cs := [.int .i64 (1 + (r : Int))]) [1 + (r : Int)] (by repeat (first | with_reducible exact Sel.head | apply Sel.tail)) rfl rfl (by decide)) ?_
      refine V_l (l_call rfl ent48 rfl (c_Tensor L [1 + (r : Int)] a (some ⟨g35, 0, none⟩) ln lc 1 1 gt p2 (by omega)) (by repeat (first | with_reducible exact Pick.nil | apply Pick.cons (by repeat (first | with_reducible exact Sel.head | apply Sel.tail)))) (by repeat (first | with_reducible exact Ins.nil | refine Ins.cons (by repeat (first | with_reducible exact In.head | apply In.tail)) ?_)) (fun _ => (by repeat (first | with_reducible exact App.nil | apply App.cons))) (fun _ => (by repeat (first | with_reducible exact App.nil | apply App.cons)))) rfl rfl ?_; rintro ⟨⟨xa, xc⟩, ya, yc⟩ -
      refine V_l (l_alloc (cs := [.slice none 0 0, .slice none 0 0]) rfl tz28 rfl) rfl rfl ?_; rintro g10 -
      refine V_n (l_st rfl ty28 rfl rfl rfl rfl rfl (by repeat (first | with_reducible exact Put.head | apply Put.tail)) (by repeat (first | exact PutL.z | apply PutL.s | apply PutL.t))) rfl rfl ?_; rintro ⟨⟩ -
      refine V_next (fun _ => rfl) ?_
      rw [hsz]
      refine T_ghost (fun w h => h.rowOut (L := Lg) (by repeat (first | with_reducible exact Sel.head | apply Sel.tail)) hLg) ?_
      refine T_seq (T_drawn hmix (.pure 0 <| .pure 1 <| .pure 2 <| .quiet 3 <| .quiet 4 <| .loud 5 <| .loud 6 <| .pure 7 <| .bar 8 <| .fin) (by decide +kernel) ?_)
      refine W_p rfl (q_mov rfl rfl) rfl rfl ?_
      refine W_p rfl (q_mov rfl rfl) rfl rfl ?_
      refine W_p rfl (q_nil rfl rfl) rfl rfl ?_
      refine W_ld rfl rfl ty77 rfl (by repeat (first | with_reducible exact Sel.head | apply Sel.tail)) (nth_row hLg) rfl rfl ?_
      refine W_ldA rfl rfl ty28 rfl (by repeat (first | with_reducible exact Sel.head | apply Sel.tail)) (by repeat (first | exact SubL.z | apply SubL.s | apply SubL.t)) rfl rfl ?_
      refine W_l rfl (l_bs [.slice none 0 0, .slice none 0 0] rfl Tryz.underlying77 ty28 tz28 (by decide) rfl rfl rfl (by repeat (first | exact FillL.nil | apply FillL.cons rfl rfl (by repeat (first | exact PutL.z | apply PutL.s | apply PutL.t))))) (fun _ _ h => by repeat (first | exact trivial | refine ⟨?_, h.weak (by repeat (first | exact List.Sublist.refl _ | exact List.nil_sublist _ | with_reducible apply List.Sublist.cons_cons | apply List.Sublist.cons)) (by simp +contextual)⟩)) rfl rfl ?_; rintro g42 -
      refine W_l rfl (l_appBs rfl Tryz.underlying77 ty28 tz28 tb28 rfl (by decide) rfl rfl (by repeat (first | with_reducible exact Sel.head | apply Sel.tail)) (fun _ => (by repeat (first | with_reducible exact Put.head | apply Put.tail))) rfl rfl (by simp [maxLen]; omega) (by first | omega | (simp; omega))) (fun _ _ h => by repeat (first | exact trivial | refine ⟨?_, h.weak (by repeat (first | exact List.Sublist.refl _ | exact List.nil_sublist _ | with_reducible apply List.Sublist.cons_cons | apply List.Sublist.cons)) (by simp +contextual)⟩)) rfl rfl ?_; rintro ⟨na, nc⟩ -
      refine W_p rfl (q_nil rfl rfl) rfl rfl ?_
      refine W_bn rfl (l_st rfl ty77 rfl rfl rfl rfl rfl (by repeat (first | with_reducible exact Put.head | apply Put.tail)) (putL_set _ d _ (by simp; omega))) rfl rfl ?_; rintro ⟨⟩ -
      refine W_next (fun _ => rfl) ?_
      refine T_ghost (fun w h => h.rowBack (L := Lg) (i := d) (e := 28) (k := 2) (by omega) (by repeat (first | with_reducible exact Pick.nil | apply Pick.cons (by repeat (first | with_reducible exact Sel.head | apply Sel.tail))))) ?_
      rw [set_row Lg d (.slice na (K + 1) nc) (K + 1) (gcs ++ [.slice xa 1 xc, .slice ya (1 + r) yc])]
      refine T_ghost (fun w h => h.nil I) ?_
      refine T_seq (T_drawn hmix (.pure 0 <| .pure 1 <| .pure 2 <| .pure 3 <| .quiet 4 <| .pure 5 <| .pure 6 <| .pure 7 <| .pure 8 <| .quiet 9 <| .loud 10 <| .fin) (by decide +kernel) ?_)
      refine W_p rfl (q_mov rfl rfl) rfl rfl ?_
      refine W_p rfl (q_mov rfl rfl) rfl rfl ?_
      refine W_p rfl (q_mov rfl rfl) rfl rfl ?_
      refine W_p rfl (q_nil rfl rfl) rfl rfl ?_
      refine W_ld rfl rfl ty77 rfl (by repeat (first | with_reducible exact Sel.head | apply Sel.tail)) (nth_row (hLg2 _ _)) rfl rfl ?_
      refine W_p rfl (q_len rfl Tryz.underlying77 rfl) rfl rfl ?_
      refine W_p rfl (q_subE (K : Int) rfl rfl rfl (by omega) (by omega)) rfl rfl ?_
      refine W_p rfl (q_buildS rfl pl112 tz112 rfl rfl (by repeat (first | exact FillL.nil | apply FillL.cons rfl rfl (by repeat (first | exact PutL.z | apply PutL.s | apply PutL.t))))) rfl rfl ?_
      refine W_p rfl (q_fa rfl fd28_0 rfl) rfl rfl ?_
      refine W_ld rfl rfl ty22 rfl (by repeat (first | with_reducible exact Sel.head | apply Sel.tail)) rfl rfl rfl ?_
      refine W_l rfl (l_call rfl ent82 rfl (c_mputR (PLs n s.es) (RLs n s.es) Ll Lr g gl gr n d (.slice wa s.W.length wc) (.int .i64 s.tag) ⟨1, 0, [], nd0, K, 0, 0⟩ [1 + (r : Int)] none none none none xa 0 0 0 0 0 0 0 0 1 xc hd (PLs_len n _) (RLs_len n _) (by show ¬ ((1 : Int) = 3); decide) hPlen hRlen) (by repeat (first | with_reducible exact Pick.nil | apply Pick.cons (by repeat (first | with_reducible exact Sel.head | apply Sel.tail)))) (by repeat (first | with_reducible exact Ins.nil | refine Ins.cons (by repeat (first | with_reducible exact In.head | apply In.tail)) ?_)) (fun _ => (by repeat (first | with_reducible exact App.nil | apply App.cons))) (fun _ => (by repeat (first | with_reducible exact App.nil | apply App.cons)))) (fun _ _ h => by repeat (first | exact trivial | refine ⟨?_, h.weak (by repeat (first | exact List.Sublist.refl _ | exact List.nil_sublist _ | with_reducible apply List.Sublist.cons_cons | apply List.Sublist.cons)) (by simp +contextual)⟩)) rfl rfl ?_; rintro ⟨Ll', Lr'⟩ -
      refine W_next (fun _ => rfl) ?_
      refine T_ret fun w h => ?_
      rw [hRm] at h
      obtain ⟨x, hx⟩ : ∃ x : Tn, x = ⟨[1 + (r : Int)], (nums L p2 (1 + r)).1⟩ := ⟨_, rfl⟩
      have hxT : T1 x := ⟨1 + r, by omega, by omega, by rw [hx]; simp, by rw [hx]; exact nums_len L p2 (1 + r)⟩
      obtain ⟨e, he⟩ : ∃ e : EvT, e = ⟨d, ⟨1, ((valE s.es d).length : Nat), [], nd0, K, 0, 0⟩, x⟩ := ⟨_, rfl⟩
      have hed : e.d = d := by rw [he]
      have hek : e.i.kind = 1 := by rw [he]
      have f1 := PLs_snoc (n := n) s.es (e := e) (by rw [hed]; exact hd)
      have f2 := RLs_snoc (n := n) s.es (e := e) (by rw [hed]; exact hd) (by omega)
      have ex : e.v.sh = [1 + (r : Int)] := by rw [he, hx]
      have ei : e.i = ⟨1, ((valE s.es d).length : Nat), [], nd0, K, 0, 0⟩ := by rw [he]
      rw [hed, ex] at f2
      rw [hed, ei] at f1
      have g0 := h.know (aEvs (rSl I) (RLs n (s.es ++ [e])) Lr') (by rw [f2]; exact h.atom In.head.tail)
      have g1 := g0.know (aEvs rInst (PLs n (s.es ++ [e])) Ll') (by rw [f1]; exact g0.atom In.head.tail)
      have q1 : EvsP rTn _ w s.given Lg := g1.atom (A := aEvs rTn s.given Lg) (by repeat (first | with_reducible exact In.head | apply In.tail))
      have k1 : EvP rTn _ w (Gf s.given d ++ [x]) _ := (q1.2 d _ _ hGd hLg).1.snoc (c1 := [.slice xa 1 xc, .slice ya (1 + r) yc]) ⟨xa, 1, xc, ya, 1 + r, yc, rfl, by rw [hx]; exact g1.atom (A := aSl I [1 + (r : Int)] xa 1 xc) (by repeat (first | with_reducible exact In.head | apply In.tail)), by rw [hx]; exact g1.atom (A := aSl I (nums L p2 (1 + r)).1 ya (1 + r) yc) (by repeat (first | with_reducible exact In.head | apply In.tail))⟩
      have g2 := g1.know (aEvs _ _ _) (q1.set d (v := .slice na (K + 1) nc) (n := K + 1) (by simp [hKn]) k1)
      have hK2 : KInv evP n ⟨s.es ++ [e], s.W, s.tag, s.given.set d (Gf s.given d ++ [x])⟩ := by
        refine hK.plain (.inl hek) (.take (by rw [hed]; exact hd) hek (by rw [ei]; exact Int.natCast_nonneg _) ?_ (by rw [ei, hed])) (fun y j v hv => Gf_grow hgl y j v hv) (by simp [hK.glen]) ?_ ?_ (by rw [he]; exact hxT) (by rw [ei]; exact .inl ⟨rfl, rfl, ⟨rfl, rfl, rfl, rfl, rfl, rfl, rfl⟩, rfl, rfl⟩)
        · rw [hed, Gf_set hgl, if_pos rfl, ei]
          show (_ ++ _)[((K : Nat) : Int).toNat]? = _
          rw [Int.toNat_natCast, hKn, List.getElem?_append_right (Nat.le_refl _), he]
          simp
        · intro l hl t ht
          rcases List.mem_or_eq_of_mem_set hl with h1 | h1
          · exact hK.gt l h1 t ht
          · rw [h1] at ht
            rcases List.mem_append.1 ht with h2 | h2
            · exact hK.gt _ (List.mem_of_getElem? hGd) t h2
            · rw [List.mem_singleton.1 h2]; exact hxT
        · intro l hl
          rcases List.mem_or_eq_of_mem_set hl with h1 | h1
          · exact Nat.le_trans (hK.gb l h1) (Nat.le_succ _)
          · rw [h1, List.length_append]
            exact Nat.succ_le_succ (hK.gb _ (List.mem_of_getElem? hGd))
      exact ⟨_, res_0, ⟨⟨s.es ++ [e], s.W, s.tag, s.given.set d (Gf s.given d ++ [x])⟩, _, Ll', Lr', _, .slice wa s.W.length wc, cw⟩, ⟨hK2, by show (s.es ++ [e]).length ≤ s.es.length + 1; simp⟩, rfl, g2.pick (by repeat (first | with_reducible exact Pick.nil | apply Pick.cons (by repeat (first | with_reducible exact Sel.head | apply Sel.tail)))) (by simp)⟩
    · have hk0 : ¬ (kk : Int) = 0 := by simpa using hb
      exact T_skip fun w h => ⟨(), ⟨by omega, by omega⟩, ⟨rfl, rfl, rfl, rfl, rfl, rfl, trivial⟩, h⟩
  rintro _ ⟨hm0, hk0⟩
  obtain ⟨gq, rfl⟩ := hra hm0
  have haa := nxtN_lt L p1 m hm0
  refine T_seq (T_reg rfl ?_)
  refine V_q (q_mov rfl rfl) rfl rfl ?_
  refine V_q (q_mov rfl rfl) rfl rfl ?_
  refine V_l (l_call rfl ent54 rfl (c_NextN L a ln lc gt p1 m hm0) (by repeat (first | with_reducible exact Pick.nil | apply Pick.cons (by repeat (first | with_reducible exact Sel.head | apply Sel.tail)))) (by repeat (first | with_reducible exact Ins.nil | refine Ins.cons (by repeat (first | with_reducible exact In.head | apply In.tail)) ?_)) (fun _ => (by repeat (first | with_reducible exact App.nil | apply App.cons))) (fun _ => (by repeat (first | with_reducible exact App.nil | apply App.cons)))) rfl rfl ?_; rintro g58 -
  refine V_q (q_asg rfl rfl) rfl rfl ?_
  refine V_next (fun _ => rfl) ?_
  obtain ⟨aa, hae⟩ : ∃ aa, aa = nxtN L p1 m := ⟨_, rfl⟩
  rw [← hae] at haa ⊢
  obtain ⟨p2, hp2⟩ : ∃ p2, p2 = nxtP L p1 m := ⟨_, rfl⟩
  rw [← hp2]
  obtain ⟨x, hxv⟩ : ∃ x, (valE s.es d)[aa]? = some x := ⟨_, List.getElem?_eq_getElem (by omega)⟩
  have hxT : T1 x := hK.vt (List.mem_of_getElem? hxv)
  have hxQ : ((valE s.es d).map (·.sh))[aa]? = some x.sh := by rw [List.getElem?_map, hxv]; rfl
  refine T_ghost (fun w h => h.evRow (xss := RLs n s.es) (L := Lr) (by repeat (first | with_reducible exact In.head | apply In.tail)) hQ hLr) ?_
  refine T_evSl aa (xs := (valE s.es d).map (·.sh)) (cs := ds) (by repeat (first | with_reducible exact In.head | apply In.tail)) hxQ fun sb sm sc hcell hsm => ?_
  refine T_seq (T_reg rfl ?_)
  refine V_q (q_mov rfl rfl) rfl rfl ?_
  refine V_q (q_nil rfl rfl) rfl rfl ?_
  refine V_q (q_fa rfl fd96_1 rfl) rfl rfl ?_
  refine V_q (q_ld rfl ty94 rfl (by repeat (first | with_reducible exact Sel.head | apply Sel.tail)) rfl) rfl rfl ?_
  refine V_q (q_mov rfl rfl) rfl rfl ?_
  refine V_q (q_ia1 rfl Tryz.underlying94 ty86 rfl rfl hd) rfl rfl ?_
  refine V_q (q_ld rfl ty86 rfl (by repeat (first | with_reducible exact Sel.head | apply Sel.tail)) (nth_row hLr)) rfl rfl ?_
  refine V_q (q_mov rfl rfl) rfl rfl ?_
  refine V_q (q_ia1 rfl Tryz.underlying86 ty22 rfl rfl haa) rfl rfl ?_
  refine V_q (q_ldRow (L := Lr) (d := d) rfl ty22 rfl (by repeat (first | with_reducible exact Sel.head | apply Sel.tail)) hLr hcell) rfl rfl ?_
  refine V_q (q_asg rfl rfl) rfl rfl ?_
  refine V_next (fun _ => rfl) ?_
  refine T_seq (T_reg rfl ?_)
  refine V_q (q_mov rfl rfl) rfl rfl ?_
  refine V_next (fun _ => rfl) ?_
  refine T_block ?_
  refine T_seq (T_reg rfl ?_)
  refine V_q (q_eq rfl rfl rfl) rfl rfl ?_
  refine V_q (q_asg rfl rfl) rfl rfl ?_
  refine V_next (fun _ => rfl) ?_
  refine T_cond rfl (fun hb => ?_) (fun hb => ?_)
  · refine T_reg rfl ?_
    refine V_q (q_mov rfl rfl) rfl rfl ?_
    refine V_q (q_mov rfl rfl) rfl rfl ?_
    refine V_q (q_mov rfl rfl) rfl rfl ?_
    refine V_l (l_bs [.int .i64 0] rfl Tryz.underlying22 ty3 tz3 (by decide) rfl rfl rfl (by repeat (first | exact FillL.nil | apply FillL.cons rfl rfl (by repeat (first | exact PutL.z | apply PutL.s | apply PutL.t))))) rfl rfl ?_; rintro g90 -
    refine V_ghost (fun w h => h.sealI (k := .i64) (n := 1) (cs := [.int .i64 (aa : Int)]) [(aa : Int)] (by repeat (first | with_reducible exact Sel.head | apply Sel.tail)) rfl rfl (by decide)) ?_
    have hr2 := nxtN_lt L p2 2 (by omega)
    refine V_ghost (fun w h => h.nil I) ?_
    obtain ⟨r, hr⟩ : ∃ r, r = nxtN L p2 2 := ⟨_, rfl⟩
    refine V_q (q_mov rfl rfl) rfl rfl ?_
    refine V_l (l_call rfl ent54 rfl (c_NextN L a ln lc gt p2 2 (by omega)) (by repeat (first | with_reducible exact Pick.nil | apply Pick.cons (by repeat (first | with_reducible exact Sel.head | apply Sel.tail)))) (by repeat (first | with_reducible exact Ins.nil | refine Ins.cons (by repeat (first | with_reducible exact In.head | apply In.tail)) ?_)) (fun _ => (by repeat (first | with_reducible exact App.nil | apply App.cons))) (fun _ => (by repeat (first | with_reducible exact App.nil | apply App.cons)))) rfl rfl ?_; rintro g92 -
    refine V_q (q_addI rfl rfl rfl (by omega)) rfl rfl ?_
    refine V_q (q_buildS rfl pl35 tz35 rfl rfl (by repeat (first | exact FillL.nil | apply FillL.cons rfl rfl (by repeat (first | exact PutL.z | apply PutL.s | apply PutL.t))))) rfl rfl ?_
    refine V_q (q_buildS rfl pl112 tz112 rfl rfl (by repeat (first | exact FillL.nil | apply FillL.cons rfl rfl (by repeat (first | exact PutL.z | apply PutL.s | apply PutL.t))))) rfl rfl ?_
    refine V_q (q_mov rfl rfl) rfl rfl ?_
    refine V_l (l_call rfl ent82 rfl (c_mputR (PLs n s.es) (RLs n s.es) Ll Lr g gl gr n d (.slice wa s.W.length wc) (.int .i64 s.tag) ⟨2, 0, [(aa : Int)], ⟨4 + (nxtN L p2 2 : Nat), [], [], [], 0, 0, ByteArray.empty⟩, 0, 0, 0⟩ x.sh (some ⟨g90, 0, none⟩) none none none sb 1 1 0 0 0 0 0 0 sm sc hd (PLs_len n _) (RLs_len n _) (by show ¬ ((2 : Int) = 3); decide) hPlen hRlen) (by repeat (first | with_reducible exact Pick.nil | apply Pick.cons (by repeat (first | with_reducible exact Sel.head | apply Sel.tail)))) (by repeat (first | with_reducible exact Ins.nil | refine Ins.cons (by repeat (first | with_reducible exact In.head | apply In.tail)) ?_)) (fun _ => (by repeat (first | with_reducible exact App.nil | apply App.cons))) (fun _ => (by repeat (first | with_reducible exact App.nil | apply App.cons)))) rfl rfl ?_; rintro ⟨Ll', Lr'⟩ -
    refine V_nil ?_
    intro w h
    obtain ⟨nd, hnd⟩ : ∃ nd : Nd, nd = ⟨4 + (nxtN L p2 2 : Nat), [], [], [], 0, 0, ByteArray.empty⟩ := ⟨_, rfl⟩
    obtain ⟨inn, hinn⟩ : ∃ inn : List Int, inn = [(aa : Int)] := ⟨_, rfl⟩
    obtain ⟨v, hve⟩ : ∃ v, v = ptw nd.op x x := ⟨_, rfl⟩
    have hvs : v.sh = x.sh := by rw [hve]; rfl
    have hvT : T1 v := by rw [hve]; exact hxT.ptw _ hxT rfl
    have hxg : (valE s.es d).getD aa Tn0 = x := by rw [List.getD_eq_getElem?_getD, hxv]; rfl
    have hv : evP nd (inn.map fun r => (valE s.es d).getD r.toNat Tn0) = some v := by
      rw [hinn]
      show evP nd [(valE s.es d).getD ((aa : Nat) : Int).toNat Tn0] = _
      rw [Int.toNat_natCast, hxg, hve]
      exact ev1 (by rw [hnd]; exact ⟨rfl, rfl, rfl, rfl, rfl⟩) (by rw [hnd]; show (4 + (nxtN L p2 2 : Nat) : Int) = 4 ∨ (4 + (nxtN L p2 2 : Nat) : Int) = 5; omega) hxT.ok
    have hins : ∀ r ∈ inn, 0 ≤ r ∧ r.toNat < (valE s.es d).length := by
      intro r hr
      rw [hinn] at hr
      rw [List.mem_singleton.1 hr]
      omega
    rw [hRm] at h
    obtain ⟨e, he⟩ : ∃ e : EvT, e = ⟨d, ⟨2, ((valE s.es d).length : Nat), inn, nd, 0, 0, 0⟩, v⟩ := ⟨_, rfl⟩
    have hed : e.d = d := by rw [he]
    have hek : e.i.kind = 2 := by rw [he]
    have f1 := PLs_snoc (n := n) s.es (e := e) (by rw [hed]; exact hd)
    have f2 := RLs_snoc (n := n) s.es (e := e) (by rw [hed]; exact hd) (by omega)
    have ex : e.v.sh = x.sh := by rw [he]; exact hvs
    have ei : e.i = ⟨2, ((valE s.es d).length : Nat), inn, nd, 0, 0, 0⟩ := by rw [he]
    rw [hed, ex] at f2
    rw [hed, ei] at f1
    have g0 := h.know (aEvs (rSl I) (RLs n (s.es ++ [e])) Lr') (by rw [f2]; exact h.atom In.head.tail)
    have g1 := g0.know (aEvs rInst (PLs n (s.es ++ [e])) Ll') (by rw [f1, hinn, hnd]; exact g0.atom In.head.tail)
    have hK2 : KInv evP n ⟨s.es ++ [e], s.W, s.tag, s.given⟩ := by
      refine hK.plain (.inr hek) (.work (by rw [hed]; exact hd) hek (by rw [ei, hed]; exact hins) (by rw [ei, hed, he]; exact hv) (by rw [ei, hed])) (fun y j v hv => hv) hK.glen hK.gt (fun l hl => Nat.le_trans (hK.gb l hl) (Nat.le_succ _)) (by rw [he]; exact hvT) (by rw [ei]; exact .inr (.inl ⟨rfl, rfl, rfl, rfl⟩))
    exact ⟨_, res_0, ⟨⟨s.es ++ [e], s.W, s.tag, s.given⟩, _, Ll', Lr', Lg, .slice wa s.W.length wc, cw⟩, ⟨hK2, by show (s.es ++ [e]).length ≤ s.es.length + 1; simp⟩, rfl, g1.pick (by repeat (first | with_reducible exact Pick.nil | apply Pick.cons (by repeat (first | with_reducible exact Sel.head | apply Sel.tail)))) (by simp)⟩
  refine T_seq (T_reg rfl ?_)
  refine V_q (q_eq rfl rfl rfl) rfl rfl ?_
  refine V_q (q_asg rfl rfl) rfl rfl ?_
  refine V_next (fun _ => rfl) ?_
  refine T_cond rfl (fun hb => ?_) (fun hb => ?_)
  · refine T_ghost (fun w h => h.rowOut (L := Lr) (by repeat (first | with_reducible exact Sel.head | apply Sel.tail)) hLr) ?_
    refine T_lend (rSl I) (e := 22) (k := 1) (v := .slice (some ⟨gq, 0, none⟩) m rc) (n := m) (cs := ds) rfl (by decide) (xs := (valE s.es d).map (·.sh)) (by repeat (first | with_reducible exact Sel.head | apply Sel.tail)) (by repeat (first | with_reducible exact In.head | apply In.tail)) fun C1 wa' wc' hv hret hdrop => ?_
    clear hdrop
    injection hv with e1 e2 e3
    subst e1; subst e3
    refine T_seq (T_reg rfl ?_)
    refine V_q (q_mov rfl rfl) rfl rfl ?_
    refine V_q (q_nil rfl rfl) rfl rfl ?_
    refine V_q (q_fa rfl fd96_1 rfl) rfl rfl ?_
    refine V_q (q_ld rfl ty94 rfl (by repeat (first | with_reducible exact Sel.head | apply Sel.tail)) rfl) rfl rfl ?_
    refine V_q (q_mov rfl rfl) rfl rfl ?_
    refine V_q (q_ia1 rfl Tryz.underlying94 ty86 rfl rfl hd) rfl rfl ?_
    refine V_q (q_ld rfl ty86 rfl (by repeat (first | with_reducible exact Sel.head | apply Sel.tail)) (nth_row hLr)) rfl rfl ?_
    refine V_q (q_mov rfl rfl) rfl rfl ?_
    refine V_l (l_call rfl ent83 rfl (c_keepsame ((valE s.es d).map (·.sh)) x.sh (some ⟨gq, 0, none⟩) sb m rc sm sc (by omega)) (by repeat (first | with_reducible exact Pick.nil | apply Pick.cons (by repeat (first | with_reducible exact Sel.head | apply Sel.tail)))) (by repeat (first | with_reducible exact Ins.nil | refine Ins.cons (by repeat (first | with_reducible exact In.head | apply In.tail)) ?_)) (fun _ => (by repeat (first | with_reducible exact App.nil | apply App.cons))) (fun _ => (by repeat (first | with_reducible exact App.nil | apply App.cons)))) rfl rfl ?_; rintro ⟨la, lc'⟩ -
    refine V_q (q_asg rfl rfl) rfl rfl ?_
    refine V_next (fun _ => rfl) ?_
    obtain ⟨J, hJ⟩ : ∃ J, J = sames ((valE s.es d).map (·.sh)) x.sh m := ⟨_, rfl⟩
    rw [← hJ]
    refine T_back (fun w h => hret _ _ _ h) ?_
    refine T_ghost (fun w h => h.rowSame (L := Lr) (d := d) (e := 22) (k := 1) hLr (by repeat (first | with_reducible exact Pick.nil | apply Pick.cons (by repeat (first | with_reducible exact Sel.head | apply Sel.tail))))) ?_
    refine T_ghost (fun w h => h.know (aEv I J (J.map (.int .i64))) (EvP.ints _ _ _ _)) ?_
    refine T_seal I (e := 3) (k := 1) rfl (by decide) (xs := J) (v := .slice la J.length lc') (n := J.length) (cs := J.map (.int .i64)) (by repeat (first | with_reducible exact Sel.head | apply Sel.tail)) In.head fun la1 lc1 hv => ?_
    injection hv with e1 e2 e3
    subst e1; subst e3
    have hps : 1 ≤ J.length := by rw [hJ]; exact sames_pos _ x.sh m haa hxQ
    have hj := nxtN_lt L p2 J.length hps
    obtain ⟨bb, hbb, hbm, hbQ⟩ : ∃ b : Nat, J.getD (nxtN L p2 J.length) 0 = (b : Int) ∧ b < m ∧ ((valE s.es d).map (·.sh))[b]? = some x.sh := by
      rw [hJ] at hj ⊢
      exact sames_get _ _ _ hj
    have hr6 := nxtN_lt L (nxtP L p2 J.length) 6 (by omega)
    refine T_ghost (fun w h => h.nil I) ?_
    refine T_drawn hmix (.pure 0 <| .pure 1 <| .pure 2 <| .pure 3 <| .pure 4 <| .pure 5 <| .pure 6 <| .pure 11 <| .pure 16 <| .bar 7 <| .quiet 8 <| .quiet 9 <| .both (.loud 10 <| .loud 12 <| .pure 13 <| .pure 14 <| .pure 15 <| .loud 17 <| .fin) (.loud 12 <| .pure 13 <| .pure 14 <| .loud 10 <| .pure 15 <| .loud 17 <| .fin)) (by decide +kernel) ?_
    refine W_p rfl (q_mov rfl rfl) rfl rfl ?_
    refine W_p rfl (q_mov rfl rfl) rfl rfl ?_
    refine W_p rfl (q_mov rfl rfl) rfl rfl ?_
    refine W_p rfl (q_mov rfl rfl) rfl rfl ?_
    refine W_p rfl (q_mov rfl rfl) rfl rfl ?_
    refine W_p rfl (q_mov rfl rfl) rfl rfl ?_
    refine W_p rfl (q_len rfl Tryz.underlying22 rfl) rfl rfl ?_
    refine W_p rfl (q_mov rfl rfl) rfl rfl ?_
    refine W_p rfl (q_mov rfl rfl) rfl rfl ?_
    refine W_b rfl (l_call rfl ent54 rfl (c_NextN L a ln lc gt p2 J.length hps) (by repeat (first | with_reducible exact Pick.nil | apply Pick.cons (by repeat (first | with_reducible exact Sel.head | apply Sel.tail)))) (by repeat (first | with_reducible exact Ins.nil | refine Ins.cons (by repeat (first | with_reducible exact In.head | apply In.tail)) ?_)) (fun _ => (by repeat (first | with_reducible exact App.nil | apply App.cons))) (fun _ => (by repeat (first | with_reducible exact App.nil | apply App.cons)))) rfl rfl ?_; rintro g116 -
    refine W_a rfl (q_iaN rfl Tryz.underlying22 ty3 rfl rfl (by omega) (by repeat (first | with_reducible exact In.head | apply In.tail))) rfl rfl ?_
    refine W_a rfl (q_ldN rfl ty3 rfl (by repeat (first | with_reducible exact In.head | apply In.tail)) (by omega)) rfl rfl ?_
    refine W_both ?_ ?_
    · refine W_l rfl (l_bs [.int .i64 0, .int .i64 0] rfl Tryz.underlying22 ty3 tz3 (by decide) rfl rfl rfl (by repeat (first | exact FillL.nil | apply FillL.cons rfl rfl (by repeat (first | exact PutL.z | apply PutL.s | apply PutL.t))))) (fun _ _ h => by repeat (first | exact trivial | refine ⟨?_, h.weak (by repeat (first | exact List.Sublist.refl _ | exact List.nil_sublist _ | with_reducible apply List.Sublist.cons_cons | apply List.Sublist.cons)) (by simp +contextual)⟩)) rfl rfl ?_; rintro g119 -
      refine W_l rfl (l_call rfl ent54 rfl (c_NextN L a ln lc gt (nxtP L p2 J.length) 6 (by omega)) (by repeat (first | with_reducible exact Pick.nil | apply Pick.cons (by repeat (first | with_reducible exact Sel.head | apply Sel.tail)))) (by repeat (first | with_reducible exact Ins.nil | refine Ins.cons (by repeat (first | with_reducible exact In.head | apply In.tail)) ?_)) (fun _ => (by repeat (first | with_reducible exact App.nil | apply App.cons))) (fun _ => (by repeat (first | with_reducible exact App.nil | apply App.cons)))) (fun _ _ h => by repeat (first | exact trivial | refine ⟨?_, h.weak (by repeat (first | exact List.Sublist.refl _ | exact List.nil_sublist _ | with_reducible apply List.Sublist.cons_cons | apply List.Sublist.cons)) (by simp +contextual)⟩)) rfl rfl ?_; rintro g121 -
      refine W_p rfl (q_addI rfl rfl rfl (by omega)) rfl rfl ?_
      refine W_p rfl (q_buildS rfl pl35 tz35 rfl rfl (by repeat (first | exact FillL.nil | apply FillL.cons rfl rfl (by repeat (first | exact PutL.z | apply PutL.s | apply PutL.t))))) rfl rfl ?_
      refine W_p rfl (q_buildS rfl pl112 tz112 rfl rfl (by repeat (first | exact FillL.nil | apply FillL.cons rfl rfl (by repeat (first | exact PutL.z | apply PutL.s | apply PutL.t))))) rfl rfl ?_
      refine W_ghost (fun w h => h.sealI (k := .i64) (n := 2) (cs := [.int .i64 (aa : Int), .int .i64 (J.getD (nxtN L p2 J.length) 0)]) [(aa : Int), J.getD (nxtN L p2 J.length) 0] (by repeat (first | with_reducible exact Sel.head | apply Sel.tail)) rfl rfl (by decide)) (fun _ h => by repeat (first | exact trivial | refine ⟨?_, h.weak (by repeat (first | exact List.Sublist.refl _ | exact List.nil_sublist _ | with_reducible apply List.Sublist.cons_cons | apply List.Sublist.cons)) (by simp +contextual)⟩)) ?_
      refine W_l rfl (l_call rfl ent82 rfl (c_mputR (PLs n s.es) (RLs n s.es) Ll Lr g gl gr n d (.slice wa s.W.length wc) (.int .i64 s.tag) ⟨2, 0, [(aa : Int), J.getD (nxtN L p2 J.length) 0], ⟨6 + (nxtN L (nxtP L p2 J.length) 6 : Nat), [], [], [], 0, 0, ByteArray.empty⟩, 0, 0, 0⟩ x.sh (some ⟨g119, 0, none⟩) none none none sb 2 2 0 0 0 0 0 0 sm sc hd (PLs_len n _) (RLs_len n _) (by show ¬ ((2 : Int) = 3); decide) hPlen hRlen) (by repeat (first | with_reducible exact Pick.nil | apply Pick.cons (by repeat (first | with_reducible exact Sel.head | apply Sel.tail)))) (by repeat (first | with_reducible exact Ins.nil | refine Ins.cons (by repeat (first | with_reducible exact In.head | apply In.tail)) ?_)) (fun _ => (by repeat (first | with_reducible exact App.nil | apply App.cons))) (fun _ => (by repeat (first | with_reducible exact App.nil | apply App.cons)))) (fun _ _ h => by repeat (first | exact trivial | refine ⟨?_, h.weak (by repeat (first | exact List.Sublist.refl _ | exact List.nil_sublist _ | with_reducible apply List.Sublist.cons_cons | apply List.Sublist.cons)) (by simp +contextual)⟩)) rfl rfl ?_; rintro ⟨Ll', Lr'⟩ -
      refine W_fin ?_
      intro w h
      obtain ⟨nd, hnd⟩ : ∃ nd : Nd, nd = ⟨6 + (nxtN L (nxtP L p2 J.length) 6 : Nat), [], [], [], 0, 0, ByteArray.empty⟩ := ⟨_, rfl⟩
      obtain ⟨inn, hinn⟩ : ∃ inn : List Int, inn = [(aa : Int), J.getD (nxtN L p2 J.length) 0] := ⟨_, rfl⟩
      obtain ⟨z, hz⟩ : ∃ z, (valE s.es d)[bb]? = some z := ⟨_, List.getElem?_eq_getElem (by omega)⟩
      have hzs : z.sh = x.sh := by
        rw [List.getElem?_map, hz] at hbQ
        injection hbQ
      have hzT : T1 z := hK.vt (List.mem_of_getElem? hz)
      obtain ⟨v, hve⟩ : ∃ v, v = ptw nd.op x z := ⟨_, rfl⟩
      have hvs : v.sh = x.sh := by rw [hve]; rfl
      have hvT : T1 v := by rw [hve]; exact hxT.ptw _ hzT hzs.symm
      have hxg : (valE s.es d).getD aa Tn0 = x := by rw [List.getD_eq_getElem?_getD, hxv]; rfl
      have hzg : (valE s.es d).getD bb Tn0 = z := by rw [List.getD_eq_getElem?_getD, hz]; rfl
      have hv : evP nd (inn.map fun r => (valE s.es d).getD r.toNat Tn0) = some v := by
        rw [hinn, hbb]
        show evP nd [(valE s.es d).getD ((aa : Nat) : Int).toNat Tn0, (valE s.es d).getD ((bb : Nat) : Int).toNat Tn0] = _
        rw [Int.toNat_natCast, Int.toNat_natCast, hxg, hzg, hve]
        refine ev2 (by rw [hnd]; exact ⟨rfl, rfl, rfl, rfl, rfl⟩) ?_ hxT.ok hzT.ok hzs.symm
        have e9 : nd.op = 6 + (nxtN L (nxtP L p2 J.length) 6 : Nat) := by rw [hnd]
        omega
      have hins : ∀ r ∈ inn, 0 ≤ r ∧ r.toNat < (valE s.es d).length := by
        intro r hr
        rw [hinn, hbb] at hr
        rcases List.mem_cons.1 hr with rfl | hr
        · omega
        · rw [List.mem_singleton.1 hr]; omega
      rw [hRm] at h
      obtain ⟨e, he⟩ : ∃ e : EvT, e = ⟨d, ⟨2, ((valE s.es d).length : Nat), inn, nd, 0, 0, 0⟩, v⟩ := ⟨_, rfl⟩
      have hed : e.d = d := by rw [he]
      have hek : e.i.kind = 2 := by rw [he]
      have f1 := PLs_snoc (n := n) s.es (e := e) (by rw [hed]; exact hd)
      have f2 := RLs_snoc (n := n) s.es (e := e) (by rw [hed]; exact hd) (by omega)
      have ex : e.v.sh = x.sh := by rw [he]; exact hvs
      have ei : e.i = ⟨2, ((valE s.es d).length : Nat), inn, nd, 0, 0, 0⟩ := by rw [he]
      rw [hed, ex] at f2
      rw [hed, ei] at f1
      have g0 := h.know (aEvs (rSl I) (RLs n (s.es ++ [e])) Lr') (by rw [f2]; exact h.atom In.head.tail)
      have g1 := g0.know (aEvs rInst (PLs n (s.es ++ [e])) Ll') (by rw [f1, hinn, hnd]; exact g0.atom In.head.tail)
      have hK2 : KInv evP n ⟨s.es ++ [e], s.W, s.tag, s.given⟩ := by
        refine hK.plain (.inr hek) (.work (by rw [hed]; exact hd) hek (by rw [ei, hed]; exact hins) (by rw [ei, hed, he]; exact hv) (by rw [ei, hed])) (fun y j v hv => hv) hK.glen hK.gt (fun l hl => Nat.le_trans (hK.gb l hl) (Nat.le_succ _)) (by rw [he]; exact hvT) (by rw [ei]; exact .inr (.inl ⟨rfl, rfl, rfl, rfl⟩))
      exact ⟨_, res_0, ⟨⟨s.es ++ [e], s.W, s.tag, s.given⟩, _, Ll', Lr', Lg, .slice wa s.W.length wc, cw⟩, ⟨hK2, by show (s.es ++ [e]).length ≤ s.es.length + 1; simp⟩, rfl, g1.pick (by repeat (first | with_reducible exact Pick.nil | apply Pick.cons (by repeat (first | with_reducible exact Sel.head | apply Sel.tail)))) (by simp)⟩
    · refine W_l rfl (l_call rfl ent54 rfl (c_NextN L a ln lc gt (nxtP L p2 J.length) 6 (by omega)) (by repeat (first | with_reducible exact Pick.nil | apply Pick.cons (by repeat (first | with_reducible exact Sel.head | apply Sel.tail)))) (by repeat (first | with_reducible exact Ins.nil | refine Ins.cons (by repeat (first | with_reducible exact In.head | apply In.tail)) ?_)) (fun _ => (by repeat (first | with_reducible exact App.nil | apply App.cons))) (fun _ => (by repeat (first | with_reducible exact App.nil | apply App.cons)))) (fun _ _ h => by repeat (first | exact trivial | refine ⟨?_, h.weak (by repeat (first | exact List.Sublist.refl _ | exact List.nil_sublist _ | with_reducible apply List.Sublist.cons_cons | apply List.Sublist.cons)) (by simp +contextual)⟩)) rfl rfl ?_; rintro g121 -
      refine W_p rfl (q_addI rfl rfl rfl (by omega)) rfl rfl ?_
      refine W_p rfl (q_buildS rfl pl35 tz35 rfl rfl (by repeat (first | exact FillL.nil | apply FillL.cons rfl rfl (by repeat (first | exact PutL.z | apply PutL.s | apply PutL.t))))) rfl rfl ?_
      refine W_l rfl (l_bs [.int .i64 0, .int .i64 0] rfl Tryz.underlying22 ty3 tz3 (by decide) rfl rfl rfl (by repeat (first | exact FillL.nil | apply FillL.cons rfl rfl (by repeat (first | exact PutL.z | apply PutL.s | apply PutL.t))))) (fun _ _ h => by repeat (first | exact trivial | refine ⟨?_, h.weak (by repeat (first | exact List.Sublist.refl _ | exact List.nil_sublist _ | with_reducible apply List.Sublist.cons_cons | apply List.Sublist.cons)) (by simp +contextual)⟩)) rfl rfl ?_; rintro g119 -
      refine W_p rfl (q_buildS rfl pl112 tz112 rfl rfl (by repeat (first | exact FillL.nil | apply FillL.cons rfl rfl (by repeat (first | exact PutL.z | apply PutL.s | apply PutL.t))))) rfl rfl ?_
      refine W_ghost (fun w h => h.sealI (k := .i64) (n := 2) (cs := [.int .i64 (aa : Int), .int .i64 (J.getD (nxtN L p2 J.length) 0)]) [(aa : Int), J.getD (nxtN L p2 J.length) 0] (by repeat (first | with_reducible exact Sel.head | apply Sel.tail)) rfl rfl (by decide)) (fun _ h => by repeat (first | exact trivial | refine ⟨?_, h.weak (by repeat (first | exact List.Sublist.refl _ | exact List.nil_sublist _ | with_reducible apply List.Sublist.cons_cons | apply List.Sublist.cons)) (by simp +contextual)⟩)) ?_
      refine W_l rfl (l_call rfl ent82 rfl (c_mputR (PLs n s.es) (RLs n s.es) Ll Lr g gl gr n d (.slice wa s.W.length wc) (.int .i64 s.tag) ⟨2, 0, [(aa : Int), J.getD (nxtN L p2 J.length) 0], ⟨6 + (nxtN L (nxtP L p2 J.length) 6 : Nat), [], [], [], 0, 0, ByteArray.empty⟩, 0, 0, 0⟩ x.sh (some ⟨g119, 0, none⟩) none none none sb 2 2 0 0 0 0 0 0 sm sc hd (PLs_len n _) (RLs_len n _) (by show ¬ ((2 : Int) = 3); decide) hPlen hRlen) (by repeat (first | with_reducible exact Pick.nil | apply Pick.cons (by repeat (first | with_reducible exact Sel.head | apply Sel.tail)))) (by repeat (first | with_reducible exact Ins.nil | refine Ins.cons (by repeat (first | with_reducible exact In.head | apply In.tail)) ?_)) (fun _ => (by repeat (first | with_reducible exact App.nil | apply App.cons))) (fun _ => (by repeat (first | with_reducible exact App.nil | apply App.cons)))) (fun _ _ h => by repeat (first | exact trivial | refine ⟨?_, h.weak (by repeat (first | exact List.Sublist.refl _ | exact List.nil_sublist _ | with_reducible apply List.Sublist.cons_cons | apply List.Sublist.cons)) (by simp +contextual)⟩)) rfl rfl ?_; rintro ⟨Ll', Lr'⟩ -
      refine W_fin ?_
      intro w h
      obtain ⟨nd, hnd⟩ : ∃ nd : Nd, nd = ⟨6 + (nxtN L (nxtP L p2 J.length) 6 : Nat), [], [], [], 0, 0, ByteArray.empty⟩ := ⟨_, rfl⟩
      obtain ⟨inn, hinn⟩ : ∃ inn : List Int, inn = [(aa : Int), J.getD (nxtN L p2 J.length) 0] := ⟨_, rfl⟩
      obtain ⟨z, hz⟩ : ∃ z, (valE s.es d)[bb]? = some z := ⟨_, List.getElem?_eq_getElem (by omega)⟩
      have hzs : z.sh = x.sh := by
        rw [List.getElem?_map, hz] at hbQ
        injection hbQ
      have hzT : T1 z := hK.vt (List.mem_of_getElem? hz)
      obtain ⟨v, hve⟩ : ∃ v, v = ptw nd.op x z := ⟨_, rfl⟩
      have hvs : v.sh = x.sh := by rw [hve]; rfl
      have hvT : T1 v := by rw [hve]; exact hxT.ptw _ hzT hzs.symm
      have hxg : (valE s.es d).getD aa Tn0 = x := by rw [List.getD_eq_getElem?_getD, hxv]; rfl
      have hzg : (valE s.es d).getD bb Tn0 = z := by rw [List.getD_eq_getElem?_getD, hz]; rfl
      have hv : evP nd (inn.map fun r => (valE s.es d).getD r.toNat Tn0) = some v := by
        rw [hinn, hbb]
        show evP nd [(valE s.es d).getD ((aa : Nat) : Int).toNat Tn0, (valE s.es d).getD ((bb : Nat) : Int).toNat Tn0] = _
        rw [Int.toNat_natCast, Int.toNat_natCast, hxg, hzg, hve]
        refine ev2 (by rw [hnd]; exact ⟨rfl, rfl, rfl, rfl, rfl⟩) ?_ hxT.ok hzT.ok hzs.symm
        have e9 : nd.op = 6 + (nxtN L (nxtP L p2 J.length) 6 : Nat) := by rw [hnd]
        omega
      have hins : ∀ r ∈ inn, 0 ≤ r ∧ r.toNat < (valE s.es d).length := by
        intro r hr
        rw [hinn, hbb] at hr
        rcases List.mem_cons.1 hr with rfl | hr
        · omega
        · rw [List.mem_singleton.1 hr]; omega
      rw [hRm] at h
      obtain ⟨e, he⟩ : ∃ e : EvT, e = ⟨d, ⟨2, ((valE s.es d).length : Nat), inn, nd, 0, 0, 0⟩, v⟩ := ⟨_, rfl⟩
      have hed : e.d = d := by rw [he]
      have hek : e.i.kind = 2 := by rw [he]
      have f1 := PLs_snoc (n := n) s.es (e := e) (by rw [hed]; exact hd)
      have f2 := RLs_snoc (n := n) s.es (e := e) (by rw [hed]; exact hd) (by omega)
      have ex : e.v.sh = x.sh := by rw [he]; exact hvs
      have ei : e.i = ⟨2, ((valE s.es d).length : Nat), inn, nd, 0, 0, 0⟩ := by rw [he]
      rw [hed, ex] at f2
      rw [hed, ei] at f1
      have g0 := h.know (aEvs (rSl I) (RLs n (s.es ++ [e])) Lr') (by rw [f2]; exact h.atom In.head.tail)
      have g1 := g0.know (aEvs rInst (PLs n (s.es ++ [e])) Ll') (by rw [f1, hinn, hnd]; exact g0.atom In.head.tail)
      have hK2 : KInv evP n ⟨s.es ++ [e], s.W, s.tag, s.given⟩ := by
        refine hK.plain (.inr hek) (.work (by rw [hed]; exact hd) hek (by rw [ei, hed]; exact hins) (by rw [ei, hed, he]; exact hv) (by rw [ei, hed])) (fun y j v hv => hv) hK.glen hK.gt (fun l hl => Nat.le_trans (hK.gb l hl) (Nat.le_succ _)) (by rw [he]; exact hvT) (by rw [ei]; exact .inr (.inl ⟨rfl, rfl, rfl, rfl⟩))
      exact ⟨_, res_0, ⟨⟨s.es ++ [e], s.W, s.tag, s.given⟩, _, Ll', Lr', Lg, .slice wa s.W.length wc, cw⟩, ⟨hK2, by show (s.es ++ [e]).length ≤ s.es.length + 1; simp⟩, rfl, g1.pick (by repeat (first | with_reducible exact Pick.nil | apply Pick.cons (by repeat (first | with_reducible exact Sel.head | apply Sel.tail)))) (by simp)⟩
  refine T_cut (fun b : Bool => [(0, .pointer (some ⟨g, 0, none⟩)), (1, .pointer (some ⟨gt, 0, none⟩)), (2, .int .i64 d), (11, .int .i64 aa), (12, .slice sb sm sc), (127, .bool b)]) (fun _ => mkO n gt g gl gr gg (.slice a ln lc) ⟨s, p2, Ll, Lr, Lg, .slice wa s.W.length wc, cw⟩) (fun _ => aSl I L a ln lc :: aSl I x.sh sb sm sc :: mkF n ⟨s, p2, Ll, Lr, Lg, .slice wa s.W.length wc, cw⟩) (fun _ => True) ?_ ?_
  · refine T_seq (T_reg rfl ?_)
    refine V_q (q_eq rfl rfl rfl) rfl rfl ?_
    refine V_q (q_asg rfl rfl) rfl rfl ?_
    refine V_next (fun _ => rfl) ?_
    refine T_cond rfl (fun hb => ?_) (fun hb => ?_)
    · exact T_skip fun w h => ⟨true, trivial, ⟨rfl, rfl, rfl, rfl, rfl, congrArg (fun b => some (Value.bool b)) hb, trivial⟩, h.pick (by repeat (first | with_reducible exact Pick.nil | apply Pick.cons (by repeat (first | with_reducible exact Sel.head | apply Sel.tail)))) (by simp)⟩
    · refine T_reg rfl ?_
      refine V_q (q_eq rfl rfl rfl) rfl rfl ?_
      refine V_q (q_asg rfl rfl) rfl rfl ?_
      refine V_nil ?_
      intro w h
      exact ⟨decide ((kk : Int) = 4), trivial, ⟨rfl, rfl, rfl, rfl, rfl, rfl, trivial⟩, h.pick (by repeat (first | with_reducible exact Pick.nil | apply Pick.cons (by repeat (first | with_reducible exact Sel.head | apply Sel.tail)))) (by simp)⟩
  rintro b -
  refine T_cond rfl (fun hb => ?_) (fun hb => ?_)
  · refine T_seq (T_reg rfl ?_)
    refine V_q (q_mov rfl rfl) rfl rfl ?_
    refine V_q (q_mov rfl rfl) rfl rfl ?_
    refine V_q (q_nil rfl rfl) rfl rfl ?_
    refine V_q (q_fa rfl fd96_0 rfl) rfl rfl ?_
    refine V_q (q_ld rfl ty42 rfl (by repeat (first | with_reducible exact Sel.head | apply Sel.tail)) rfl) rfl rfl ?_
    refine V_q (q_len rfl Tryz.underlying42 rfl) rfl rfl ?_
    refine V_l (l_call rfl ent54 rfl (c_NextN L a ln lc gt p2 n (by omega)) (by repeat (first | with_reducible exact Pick.nil | apply Pick.cons (by repeat (first | with_reducible exact Sel.head | apply Sel.tail)))) (by repeat (first | with_reducible exact Ins.nil | refine Ins.cons (by repeat (first | with_reducible exact In.head | apply In.tail)) ?_)) (fun _ => (by repeat (first | with_reducible exact App.nil | apply App.cons))) (fun _ => (by repeat (first | with_reducible exact App.nil | apply App.cons)))) rfl rfl ?_; rintro g136 -
    refine V_q (q_asg rfl rfl) rfl rfl ?_
    refine V_next (fun _ => rfl) ?_
    have hee := nxtN_lt L p2 n (by omega)
    obtain ⟨ee, hE⟩ : ∃ ee, ee = nxtN L p2 n := ⟨_, rfl⟩
    rw [← hE] at hee ⊢
    obtain ⟨p3, hp3⟩ : ∃ p3, p3 = nxtP L p2 n := ⟨_, rfl⟩
    rw [← hp3]
    refine T_seq (T_reg rfl ?_)
    refine V_q (q_mov rfl rfl) rfl rfl ?_
    refine V_q (q_mov rfl rfl) rfl rfl ?_
    refine V_q (q_mov rfl rfl) rfl rfl ?_
    refine V_l (l_bs [.int .i64 0] rfl Tryz.underlying22 ty3 tz3 (by decide) rfl rfl rfl (by repeat (first | exact FillL.nil | apply FillL.cons rfl rfl (by repeat (first | exact PutL.z | apply PutL.s | apply PutL.t))))) rfl rfl ?_; rintro g140 -
    refine V_ghost (fun w h => h.sealI (k := .i64) (n := 1) (cs := [.int .i64 (aa : Int)]) [(aa : Int)] (by repeat (first | with_reducible exact Sel.head | apply Sel.tail)) rfl rfl (by decide)) ?_
    refine V_ghost (fun w h => h.nil I) ?_
    refine V_q (q_mov rfl rfl) rfl rfl ?_
    refine V_q (q_mov rfl rfl) rfl rfl ?_
    refine V_q (q_nil rfl rfl) rfl rfl ?_
    refine V_q (q_fa rfl fd96_3 rfl) rfl rfl ?_
    refine V_q (q_ld rfl ty3 rfl (by repeat (first | with_reducible exact Sel.head | apply Sel.tail)) rfl) rfl rfl ?_
    refine V_q (q_buildS rfl pl112 tz112 rfl rfl (by repeat (first | exact FillL.nil | apply FillL.cons rfl rfl (by repeat (first | exact PutL.z | apply PutL.s | apply PutL.t))))) rfl rfl ?_
    refine V_l (l_call rfl ent82 rfl (c_mputS (PLs n s.es) (RLs n s.es) Ll Lr g gl gr n d (.slice wa s.W.length wc) (.int .i64 s.tag) ⟨3, 0, [(aa : Int)], nd0, 0, ee, s.tag⟩ [] (some ⟨g140, 0, none⟩) none none none none 1 1 0 0 0 0 0 0 0 0 hd (PLs_len n _) (RLs_len n _) rfl hPlen) (by repeat (first | with_reducible exact Pick.nil | apply Pick.cons (by repeat (first | with_reducible exact Sel.head | apply Sel.tail)))) (by repeat (first | with_reducible exact Ins.nil | refine Ins.cons (by repeat (first | with_reducible exact In.head | apply In.tail)) ?_)) (fun _ => (by repeat (first | with_reducible exact App.nil | apply App.cons))) (fun _ => (by repeat (first | with_reducible exact App.nil | apply App.cons)))) rfl rfl ?_; rintro Ll' -
    refine V_next (fun _ => rfl) ?_
    have hWl : s.W.length ≤ 1000 := by
      have := hK.w3
      have h2 : cnt 3 s.es ≤ s.es.length := List.length_filter_le _ _
      omega
    have htb := hK.tb
    refine T_seq (T_drawn hmix (.pure 0 <| .pure 1 <| .pure 2 <| .pure 3 <| .quiet 4 <| .pure 5 <| .pure 6 <| .pure 7 <| .pure 8 <| .pure 9 <| .quiet 10 <| .pure 11 <| .pure 12 <| .pure 13 <| .loud 14 <| .loud 15 <| .pure 16 <| .pure 17 <| .bar 18 <| .fin) (by decide +kernel) ?_)
    refine W_p rfl (q_mov rfl rfl) rfl rfl ?_
    refine W_p rfl (q_mov rfl rfl) rfl rfl ?_
    refine W_p rfl (q_nil rfl rfl) rfl rfl ?_
    refine W_p rfl (q_fa rfl fd96_2 rfl) rfl rfl ?_
    refine W_ld rfl rfl ty65 rfl (by repeat (first | with_reducible exact Sel.head | apply Sel.tail)) rfl rfl rfl ?_
    refine W_p rfl (q_mov rfl rfl) rfl rfl ?_
    refine W_p rfl (q_mov rfl rfl) rfl rfl ?_
    refine W_p rfl (q_mov rfl rfl) rfl rfl ?_
    refine W_p rfl (q_nil rfl rfl) rfl rfl ?_
    refine W_p rfl (q_fa rfl fd96_3 rfl) rfl rfl ?_
    refine W_ld rfl rfl ty3 rfl (by repeat (first | with_reducible exact Sel.head | apply Sel.tail)) rfl rfl rfl ?_
    refine W_p rfl (q_mov rfl rfl) rfl rfl ?_
    refine W_p rfl (q_buildS rfl pl28 tz28 rfl rfl (by repeat (first | exact FillL.nil | apply FillL.cons rfl rfl (by repeat (first | exact PutL.z | apply PutL.s | apply PutL.t))))) rfl rfl ?_
    refine W_p rfl (q_buildS rfl pl131 tz131 rfl rfl (by repeat (first | exact FillL.nil | apply FillL.cons rfl rfl (by repeat (first | exact PutL.z | apply PutL.s | apply PutL.t))))) rfl rfl ?_
    refine W_l rfl (l_bs [.int .i64 0, .int .i64 0, .int .i64 0, .slice none 0 0, .slice none 0 0] rfl Tryz.underlying65 ty131 tz131 (by decide) rfl rfl rfl (by repeat (first | exact FillL.nil | apply FillL.cons rfl rfl (by repeat (first | exact PutL.z | apply PutL.s | apply PutL.t))))) (fun _ _ h => by repeat (first | exact trivial | refine ⟨?_, h.weak (by repeat (first | exact List.Sublist.refl _ | exact List.nil_sublist _ | with_reducible apply List.Sublist.cons_cons | apply List.Sublist.cons)) (by simp +contextual)⟩)) rfl rfl ?_; rintro g162 -
    refine W_l rfl (l_appBs rfl Tryz.underlying65 ty131 tz131 tb131 rfl (by decide) rfl rfl (by repeat (first | with_reducible exact Sel.head | apply Sel.tail)) (fun _ => (by repeat (first | with_reducible exact Put.head | apply Put.tail))) rfl rfl (by simp [maxLen]; omega) (by first | omega | (simp; omega))) (fun _ _ h => by repeat (first | exact trivial | refine ⟨?_, h.weak (by repeat (first | exact List.Sublist.refl _ | exact List.nil_sublist _ | with_reducible apply List.Sublist.cons_cons | apply List.Sublist.cons)) (by simp +contextual)⟩)) rfl rfl ?_; rintro ⟨na, nc⟩ -
    refine W_p rfl (q_nil rfl rfl) rfl rfl ?_
    refine W_p rfl (q_fa rfl fd96_2 rfl) rfl rfl ?_
    refine W_bn rfl (l_st rfl ty65 rfl rfl rfl rfl rfl (by repeat (first | with_reducible exact Put.head | apply Put.tail)) (by repeat (first | exact PutL.z | apply PutL.s | apply PutL.t))) rfl rfl ?_; rintro ⟨⟩ -
    refine W_next (fun _ => rfl) ?_
    have h2 := nxtN_lt L p3 2 (by omega)
    have h3 := nxtN_lt L (nxtP L p3 2) 3 (by omega)
    obtain ⟨u2, hu2⟩ : ∃ u, u = nxtN L p3 2 := ⟨_, rfl⟩
    obtain ⟨u3, hu3⟩ : ∃ u, u = nxtN L (nxtP L p3 2) 3 := ⟨_, rfl⟩
    have hmul : u2 * u3 ≤ 2 := by
      rw [← hu2] at h2; rw [← hu3] at h3
      have : u2 = 0 ∨ u2 = 1 := by omega
      rcases this with h | h <;> subst h <;> omega
    have hcast : (nxtN L p3 2 : Int) * (nxtN L (nxtP L p3 2) 3 : Int) = ((u2 * u3 : Nat) : Int) := by rw [hu2, hu3, Int.natCast_mul]
    refine T_drawn hmix (.pure 0 <| .pure 1 <| .pure 2 <| .pure 3 <| .quiet 4 <| .pure 5 <| .pure 7 <| .loud 6 <| .loud 8 <| .pure 9 <| .pure 10 <| .pure 11 <| .pure 12 <| .pure 13 <| .bar 14 <| .fin) (by decide +kernel) ?_
    refine W_p rfl (q_mov rfl rfl) rfl rfl ?_
    refine W_p rfl (q_mov rfl rfl) rfl rfl ?_
    refine W_p rfl (q_nil rfl rfl) rfl rfl ?_
    refine W_p rfl (q_fa rfl fd96_3 rfl) rfl rfl ?_
    refine W_ld rfl rfl ty3 rfl (by repeat (first | with_reducible exact Sel.head | apply Sel.tail)) rfl rfl rfl ?_
    refine W_p rfl (q_mov rfl rfl) rfl rfl ?_
    refine W_p rfl (q_mov rfl rfl) rfl rfl ?_
    refine W_l rfl (l_call rfl ent54 rfl (c_NextN L a ln lc gt p3 2 (by omega)) (by repeat (first | with_reducible exact Pick.nil | apply Pick.cons (by repeat (first | with_reducible exact Sel.head | apply Sel.tail)))) (by repeat (first | with_reducible exact Ins.nil | refine Ins.cons (by repeat (first | with_reducible exact In.head | apply In.tail)) ?_)) (fun _ => (by repeat (first | with_reducible exact App.nil | apply App.cons))) (fun _ => (by repeat (first | with_reducible exact App.nil | apply App.cons)))) (fun _ _ h => by repeat (first | exact trivial | refine ⟨?_, h.weak (by repeat (first | exact List.Sublist.refl _ | exact List.nil_sublist _ | with_reducible apply List.Sublist.cons_cons | apply List.Sublist.cons)) (by simp +contextual)⟩)) rfl rfl ?_; rintro g172 -
    refine W_l rfl (l_call rfl ent54 rfl (c_NextN L a ln lc gt (nxtP L p3 2) 3 (by omega)) (by repeat (first | with_reducible exact Pick.nil | apply Pick.cons (by repeat (first | with_reducible exact Sel.head | apply Sel.tail)))) (by repeat (first | with_reducible exact Ins.nil | refine Ins.cons (by repeat (first | with_reducible exact In.head | apply In.tail)) ?_)) (fun _ => (by repeat (first | with_reducible exact App.nil | apply App.cons))) (fun _ => (by repeat (first | with_reducible exact App.nil | apply App.cons)))) (fun _ _ h => by repeat (first | exact trivial | refine ⟨?_, h.weak (by repeat (first | exact List.Sublist.refl _ | exact List.nil_sublist _ | with_reducible apply List.Sublist.cons_cons | apply List.Sublist.cons)) (by simp +contextual)⟩)) rfl rfl ?_; rintro g174 -
    refine W_p rfl (q_mulE ((u2 * u3 : Nat) : Int) rfl rfl rfl hcast (by omega)) rfl rfl ?_
    refine W_p rfl (q_addI rfl rfl rfl (by omega)) rfl rfl ?_
    refine W_p rfl (q_addI rfl rfl rfl (by omega)) rfl rfl ?_
    refine W_p rfl (q_nil rfl rfl) rfl rfl ?_
    refine W_p rfl (q_fa rfl fd96_3 rfl) rfl rfl ?_
    refine W_bn rfl (l_st rfl ty3 rfl rfl rfl rfl rfl (by repeat (first | with_reducible exact Put.head | apply Put.tail)) (by repeat (first | exact PutL.z | apply PutL.s | apply PutL.t))) rfl rfl ?_; rintro ⟨⟩ -
    refine W_fin ?_
    intro w h
    obtain ⟨e, he⟩ : ∃ e : EvT, e = ⟨d, ⟨3, 0, [(aa : Int)], nd0, 0, ee, s.tag⟩, x⟩ := ⟨_, rfl⟩
    have hed : e.d = d := by rw [he]
    have hek : e.i.kind = 3 := by rw [he]
    have ei : e.i = ⟨3, 0, [(aa : Int)], nd0, 0, ee, s.tag⟩ := by rw [he]
    have f1 := PLs_snoc (n := n) s.es (e := e) (by rw [hed]; exact hd)
    have f2 := RLs_send (n := n) s.es (e := e) hek
    rw [hed, ei] at f1
    have g0 := h.know (aEvs (rSl I) (RLs n (s.es ++ [e])) Lr) (by rw [f2]; exact h.atom (A := aEvs (rSl I) (RLs n s.es) Lr) (by repeat (first | with_reducible exact In.head | apply In.tail)))
    have g1 := g0.know (aEvs rInst (PLs n (s.es ++ [e])) Ll') (by rw [f1]; exact g0.atom (by repeat (first | with_reducible exact In.head | apply In.tail)))
    have g2 := g1.know (aEv rMsg ((s.W ++ [e]).map toMsgW) (cw ++ [.int .i64 d, .int .i64 ee, .int .i64 s.tag, .slice sb sm sc, .slice none 0 0])) (by
      rw [List.map_append]
      exact EvP.snoc (show EvP rMsg _ _ _ _ from g1.atom (A := aEv rMsg (s.W.map toMsgW) cw) (by repeat (first | with_reducible exact In.head | apply In.tail))) ⟨sb, sm, sc, none, 0, 0, by rw [he]; rfl, by rw [he]; exact g1.atom (A := aSl I x.sh sb sm sc) (by repeat (first | with_reducible exact In.head | apply In.tail)), SlP.nil _ _ _⟩)
    have hK2 : KInv evP n ⟨s.es ++ [e], s.W ++ [e], s.tag + (u2 * u3 : Nat) + 1, s.given⟩ := by
      refine hK.sent hek (.send (by rw [hed]; exact hd) hek aa (by rw [ei]) (by rw [hed, he]; exact hxv) (by rw [ei]; exact Int.natCast_nonneg _) (by rw [ei]; show (ee : Int) < n; omega) ?_) (by rw [ei]) (by omega) (by omega) (by rw [he]; exact hxT) (by rw [ei]; exact .inr (.inr (.inl ⟨rfl, rfl, rfl, ⟨rfl, rfl, rfl, rfl, rfl, rfl, rfl⟩, rfl⟩)))
      intro y hy hyk
      have := hK.tags y hy hyk
      rw [ei]
      show y.i.tag ≠ s.tag
      omega
    have hlen : (s.W ++ [e]).length = s.W.length + 1 := by simp
    refine ⟨_, res_0, ⟨⟨s.es ++ [e], s.W ++ [e], s.tag + (u2 * u3 : Nat) + 1, s.given⟩, nxtP L (nxtP L p3 2) 3, Ll', Lr, Lg, .slice na (s.W.length + 1) nc, cw ++ [.int .i64 d, .int .i64 ee, .int .i64 s.tag, .slice sb sm sc, .slice none 0 0]⟩, ⟨hK2, by show (s.es ++ [e]).length ≤ s.es.length + 1; simp⟩, rfl, ?_⟩
    simp only [mkO, hlen]
    exact g2.pick (by repeat (first | with_reducible exact Pick.nil | apply Pick.cons (by repeat (first | with_reducible exact Sel.head | apply Sel.tail)))) (by simp)
  · refine T_seq (T_reg rfl ?_)
    refine V_q (q_mov rfl rfl) rfl rfl ?_
    refine V_q (q_nil rfl rfl) rfl rfl ?_
    refine V_q (q_fa rfl fd96_2 rfl) rfl rfl ?_
    refine V_q (q_ld rfl ty65 rfl (by repeat (first | with_reducible exact Sel.head | apply Sel.tail)) rfl) rfl rfl ?_
    refine V_q (q_len rfl Tryz.underlying65 rfl) rfl rfl ?_
    refine V_q (q_gt rfl rfl rfl) rfl rfl ?_
    refine V_next (fun _ => rfl) ?_
    refine T_cond rfl (fun hb => ?_) (fun hb => ?_)
    · have hW : 0 < s.W.length := by
        have : (0 : Int) < s.W.length := by simpa using hb
        omega
      have hj := nxtN_lt L p2 s.W.length hW
      obtain ⟨y, hy⟩ : ∃ y, s.W[nxtN L p2 s.W.length]? = some y := ⟨_, List.getElem?_eq_getElem hj⟩
      refine T_reg rfl ?_
      refine V_q (q_mov rfl rfl) rfl rfl ?_
      refine V_q (q_mov rfl rfl) rfl rfl ?_
      refine V_q (q_mov rfl rfl) rfl rfl ?_
      refine V_q (q_nil rfl rfl) rfl rfl ?_
      refine V_q (q_fa rfl fd96_2 rfl) rfl rfl ?_
      refine V_q (q_ld rfl ty65 rfl (by repeat (first | with_reducible exact Sel.head | apply Sel.tail)) rfl) rfl rfl ?_
      refine V_q (q_len rfl Tryz.underlying65 rfl) rfl rfl ?_
      refine V_l (l_call rfl ent54 rfl (c_NextN L a ln lc gt p2 s.W.length hW) (by repeat (first | with_reducible exact Pick.nil | apply Pick.cons (by repeat (first | with_reducible exact Sel.head | apply Sel.tail)))) (by repeat (first | with_reducible exact Ins.nil | refine Ins.cons (by repeat (first | with_reducible exact In.head | apply In.tail)) ?_)) (fun _ => (by repeat (first | with_reducible exact App.nil | apply App.cons))) (fun _ => (by repeat (first | with_reducible exact App.nil | apply App.cons)))) rfl rfl ?_; rintro g83 -
      refine V_l (l_call rfl ent56 rfl (c_mrecv s hK (by omega) hy Ll Lr g gl gr (.slice wa s.W.length wc) cw (.int .i64 s.tag)) (by repeat (first | with_reducible exact Pick.nil | apply Pick.cons (by repeat (first | with_reducible exact Sel.head | apply Sel.tail)))) (by repeat (first | with_reducible exact Ins.nil | refine Ins.cons (by repeat (first | with_reducible exact In.head | apply In.tail)) ?_)) (fun _ => (by repeat (first | with_reducible exact App.nil | apply App.cons))) (fun _ => (by repeat (first | with_reducible exact App.nil | apply App.cons)))) rfl rfl ?_; rintro ⟨⟨Ll', Lr'⟩, vw', cw'⟩ -
      refine V_nil ?_
      intro w h
      exact ⟨_, res_0, ⟨⟨s.es ++ [⟨y.i.dev.toNat, recvI (valE s.es y.i.dev.toNat).length y, y.v⟩], s.W.take (nxtN L p2 s.W.length) ++ s.W.drop (nxtN L p2 s.W.length + 1), s.tag, s.given⟩, nxtP L p2 s.W.length, Ll', Lr', Lg, vw', cw'⟩, ⟨hK.recv hy, by simp⟩, rfl, h.pick (by repeat (first | with_reducible exact Pick.nil | apply Pick.cons (by repeat (first | with_reducible exact Sel.head | apply Sel.tail)))) (by simp)⟩
    · exact T_skip fun w h => ⟨_, res_0, ⟨s, p2, Ll, Lr, Lg, .slice wa s.W.length wc, cw⟩, ⟨hK, by simp⟩, rfl, h.pick (by repeat (first | with_reducible exact Pick.nil | apply Pick.cons (by repeat (first | with_reducible exact Sel.head | apply Sel.tail)))) (by simp)⟩
end Go.Proofs.YtgbhegmhbeekpaaGreat
