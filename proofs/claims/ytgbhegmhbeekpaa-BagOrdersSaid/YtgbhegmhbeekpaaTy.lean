/-
  Closed facts on the types, the fields and the functions that the code names. Written by a program of the prover's (tyfacts.py).
-/
import Derived.Test.YtgbhegmhbeekpaaFrMap
import Derived.Test.YtgbhegmhbeekpaaRows
namespace Go.Proofs.Ytgbhegmhbeekpaa
open Go
theorem hmix : Try.prog.follows .mixedOrders = true := by kernel_rfl
theorem ty2 : Ty Try.prog 2 false 1 := ⟨⟨_, Try.underlying2, rfl⟩, by kernel_rfl⟩
theorem ty3 : Ty Try.prog 3 false 1 := ⟨⟨_, Try.underlying3, rfl⟩, by kernel_rfl⟩
theorem ty24 : Ty Try.prog 24 true 5 := ⟨⟨_, Try.underlying24, rfl⟩, by kernel_rfl⟩
theorem ty27 : Ty Try.prog 27 false 1 := ⟨⟨_, Try.underlying27, rfl⟩, by kernel_rfl⟩
theorem ty30 : Ty Try.prog 30 true 2 := ⟨⟨_, Try.underlying30, rfl⟩, by kernel_rfl⟩
theorem ty37 : Ty Try.prog 37 false 1 := ⟨⟨_, Try.underlying37, rfl⟩, by kernel_rfl⟩
theorem ty39 : Ty Try.prog 39 true 2 := ⟨⟨_, Try.underlying39, rfl⟩, by kernel_rfl⟩
theorem ty41 : Ty Try.prog 41 true 5 := ⟨⟨_, Try.underlying41, rfl⟩, by kernel_rfl⟩
theorem ty54 : Ty Try.prog 54 false 1 := ⟨⟨_, Try.underlying54, rfl⟩, by kernel_rfl⟩
theorem ty56 : Ty Try.prog 56 true 1 := ⟨⟨_, Try.underlying56, rfl⟩, by kernel_rfl⟩
theorem ty58 : Ty Try.prog 58 true 3 := ⟨⟨_, Try.underlying58, rfl⟩, by kernel_rfl⟩
theorem ty84 : Ty Try.prog 84 false 1 := ⟨⟨_, Try.underlying84, rfl⟩, by kernel_rfl⟩
theorem tz2 : TyZ Try.prog 2 (.int .i64 0) := by unfold TyZ; kernel_rfl
theorem tz3 : TyZ Try.prog 3 (.int .i64 0) := by unfold TyZ; kernel_rfl
theorem tz24 : TyZ Try.prog 24 (.agg #[.int .i64 0, .int .i64 0, .int .i64 0, .int .i64 0, .int .i64 0]) := by unfold TyZ; kernel_rfl
theorem tz30 : TyZ Try.prog 30 (.agg #[.slice none 0 0, .int .i64 0]) := by unfold TyZ; kernel_rfl
theorem tz39 : TyZ Try.prog 39 (.agg #[.slice none 0 0, .slice none 0 0]) := by unfold TyZ; kernel_rfl
theorem tz41 : TyZ Try.prog 41 (.agg #[.int .i64 0, .int .i64 0, .int .i64 0, .slice none 0 0, .slice none 0 0]) := by unfold TyZ; kernel_rfl
theorem tz56 : TyZ Try.prog 56 (.agg #[.map none]) := by unfold TyZ; kernel_rfl
theorem tz58 : TyZ Try.prog 58 (.agg #[.int .i64 0, .int .i64 0, .int .i64 0]) := by unfold TyZ; kernel_rfl
theorem tz84 : TyZ Try.prog 84 (.int .u64 0) := by unfold TyZ; kernel_rfl
theorem tb2 : TyB Try.prog 2 8 := by unfold TyB; kernel_rfl
theorem tb3 : TyB Try.prog 3 8 := by unfold TyB; kernel_rfl
theorem tb24 : TyB Try.prog 24 40 := by unfold TyB; kernel_rfl
theorem tb30 : TyB Try.prog 30 32 := by unfold TyB; kernel_rfl
theorem tb39 : TyB Try.prog 39 48 := by unfold TyB; kernel_rfl
theorem tb41 : TyB Try.prog 41 72 := by unfold TyB; kernel_rfl
theorem tb56 : TyB Try.prog 56 8 := by unfold TyB; kernel_rfl
theorem tb58 : TyB Try.prog 58 24 := by unfold TyB; kernel_rfl
theorem tb84 : TyB Try.prog 84 8 := by unfold TyB; kernel_rfl
theorem pl24 : Places Try.prog 24 (fun i => [(0, 1), (1, 1), (2, 1), (3, 1), (4, 1)][i]?) := Places.of Try.underlying24 (by kernel_rfl)
theorem pl30 : Places Try.prog 30 (fun i => [(0, 1), (1, 1)][i]?) := Places.of Try.underlying30 (by kernel_rfl)
theorem pl39 : Places Try.prog 39 (fun i => [(0, 1), (1, 1)][i]?) := Places.of Try.underlying39 (by kernel_rfl)
theorem pl41 : Places Try.prog 41 (fun i => [(0, 1), (1, 1), (2, 1), (3, 2)][i]?) := Places.of Try.underlying41 (by kernel_rfl)
theorem pl56 : Places Try.prog 56 (fun i => [(0, 1)][i]?) := Places.of Try.underlying56 (by kernel_rfl)
theorem fd24_0 : Fld Try.prog 24 0 0 3 := ⟨⟨_, _, Try.underlying24, rfl, rfl, rfl, 1, by decide, by kernel_rfl⟩⟩
theorem fd24_1 : Fld Try.prog 24 1 1 3 := ⟨⟨_, _, Try.underlying24, rfl, rfl, rfl, 1, by decide, by kernel_rfl⟩⟩
theorem fd24_2 : Fld Try.prog 24 2 2 3 := ⟨⟨_, _, Try.underlying24, rfl, rfl, rfl, 1, by decide, by kernel_rfl⟩⟩
theorem fd24_3 : Fld Try.prog 24 3 3 3 := ⟨⟨_, _, Try.underlying24, rfl, rfl, rfl, 1, by decide, by kernel_rfl⟩⟩
theorem fd24_4 : Fld Try.prog 24 4 4 2 := ⟨⟨_, _, Try.underlying24, rfl, rfl, rfl, 1, by decide, by kernel_rfl⟩⟩
theorem fd30_0 : Fld Try.prog 30 0 0 27 := ⟨⟨_, _, Try.underlying30, rfl, rfl, rfl, 1, by decide, by kernel_rfl⟩⟩
theorem fd30_1 : Fld Try.prog 30 1 1 3 := ⟨⟨_, _, Try.underlying30, rfl, rfl, rfl, 1, by decide, by kernel_rfl⟩⟩
theorem fd39_0 : Fld Try.prog 39 0 0 27 := ⟨⟨_, _, Try.underlying39, rfl, rfl, rfl, 1, by decide, by kernel_rfl⟩⟩
theorem fd39_1 : Fld Try.prog 39 1 1 37 := ⟨⟨_, _, Try.underlying39, rfl, rfl, rfl, 1, by decide, by kernel_rfl⟩⟩
theorem fd41_0 : Fld Try.prog 41 0 0 3 := ⟨⟨_, _, Try.underlying41, rfl, rfl, rfl, 1, by decide, by kernel_rfl⟩⟩
theorem fd41_1 : Fld Try.prog 41 1 1 3 := ⟨⟨_, _, Try.underlying41, rfl, rfl, rfl, 1, by decide, by kernel_rfl⟩⟩
theorem fd41_2 : Fld Try.prog 41 2 2 3 := ⟨⟨_, _, Try.underlying41, rfl, rfl, rfl, 1, by decide, by kernel_rfl⟩⟩
theorem fd41_3 : Fld Try.prog 41 3 3 39 := ⟨⟨_, _, Try.underlying41, rfl, rfl, rfl, 2, by decide, by kernel_rfl⟩⟩
theorem fd56_0 : Fld Try.prog 56 0 0 54 := ⟨⟨_, _, Try.underlying56, rfl, rfl, rfl, 1, by decide, by kernel_rfl⟩⟩
theorem ent2 : Enters Try.prog 2 := ent_of Try.func2 (by kernel_rfl) rfl
theorem ent3 : Enters Try.prog 3 := ent_of Try.func3 (by kernel_rfl) rfl
theorem ent4 : Enters Try.prog 4 := ent_of Try.func4 (by kernel_rfl) rfl
theorem ent5 : Enters Try.prog 5 := ent_of Try.func5 (by kernel_rfl) rfl
theorem ent6 : Enters Try.prog 6 := ent_of Try.func6 (by kernel_rfl) rfl
theorem ent7 : Enters Try.prog 7 := ent_of Try.func7 (by kernel_rfl) rfl
theorem ent8 : Enters Try.prog 8 := ent_of Try.func8 (by kernel_rfl) rfl
theorem ent9 : Enters Try.prog 9 := ent_of Try.func9 (by kernel_rfl) rfl
theorem ent10 : Enters Try.prog 10 := ent_of Try.func10 (by kernel_rfl) rfl
theorem ent11 : Enters Try.prog 11 := ent_of Try.func11 (by kernel_rfl) rfl
theorem ent12 : Enters Try.prog 12 := ent_of Try.func12 (by kernel_rfl) rfl
theorem ent13 : Enters Try.prog 13 := ent_of Try.func13 (by kernel_rfl) rfl
theorem ent14 : Enters Try.prog 14 := ent_of Try.func14 (by kernel_rfl) rfl
theorem ent15 : Enters Try.prog 15 := ent_of Try.func15 (by kernel_rfl) rfl
theorem ent16 : Enters Try.prog 16 := ent_of Try.func16 (by kernel_rfl) rfl
theorem ent17 : Enters Try.prog 17 := ent_of Try.func17 (by kernel_rfl) rfl
theorem ent18 : Enters Try.prog 18 := ent_of Try.func18 (by kernel_rfl) rfl
theorem ent19 : Enters Try.prog 19 := ent_of Try.func19 (by kernel_rfl) rfl
theorem ent20 : Enters Try.prog 20 := ent_of Try.func20 (by kernel_rfl) rfl
theorem ent21 : Enters Try.prog 21 := ent_of Try.func21 (by kernel_rfl) rfl
theorem ent22 : Enters Try.prog 22 := ent_of Try.func22 (by kernel_rfl) rfl
theorem ent23 : Enters Try.prog 23 := ent_of Try.func23 (by kernel_rfl) rfl
theorem ent24 : Enters Try.prog 24 := ent_of Try.func24 (by kernel_rfl) rfl
theorem ent25 : Enters Try.prog 25 := ent_of Try.func25 (by kernel_rfl) rfl
theorem ent26 : Enters Try.prog 26 := ent_of Try.func26 (by kernel_rfl) rfl
theorem ent27 : Enters Try.prog 27 := ent_of Try.func27 (by kernel_rfl) rfl
theorem ent28 : Enters Try.prog 28 := ent_of Try.func28 (by kernel_rfl) rfl
theorem ent29 : Enters Try.prog 29 := ent_of Try.func29 (by kernel_rfl) rfl
theorem ent30 : Enters Try.prog 30 := ent_of Try.func30 (by kernel_rfl) rfl
theorem ent31 : Enters Try.prog 31 := ent_of Try.func31 (by kernel_rfl) rfl
theorem ent32 : Enters Try.prog 32 := ent_of Try.func32 (by kernel_rfl) rfl
theorem ent33 : Enters Try.prog 33 := ent_of Try.func33 (by kernel_rfl) rfl
theorem ent34 : Enters Try.prog 34 := ent_of Try.func34 (by kernel_rfl) rfl
theorem ent35 : Enters Try.prog 35 := ent_of Try.func35 (by kernel_rfl) rfl
theorem ent36 : Enters Try.prog 36 := ent_of Try.func36 (by kernel_rfl) rfl
theorem ent37 : Enters Try.prog 37 := ent_of Try.func37 (by kernel_rfl) rfl
theorem ent38 : Enters Try.prog 38 := ent_of Try.func38 (by kernel_rfl) rfl
theorem ent39 : Enters Try.prog 39 := ent_of Try.func39 (by kernel_rfl) rfl
theorem ent40 : Enters Try.prog 40 := ent_of Try.func40 (by kernel_rfl) rfl
theorem ent41 : Enters Try.prog 41 := ent_of Try.func41 (by kernel_rfl) rfl
theorem ent42 : Enters Try.prog 42 := ent_of Try.func42 (by kernel_rfl) rfl
theorem ent43 : Enters Try.prog 43 := ent_of Try.func43 (by kernel_rfl) rfl
theorem ent44 : Enters Try.prog 44 := ent_of Try.func44 (by kernel_rfl) rfl
theorem ent45 : Enters Try.prog 45 := ent_of Try.func45 (by kernel_rfl) rfl
theorem ent46 : Enters Try.prog 46 := ent_of Try.func46 (by kernel_rfl) rfl
theorem ent47 : Enters Try.prog 47 := ent_of Try.func47 (by kernel_rfl) rfl
theorem ent48 : Enters Try.prog 48 := ent_of Try.func48 (by kernel_rfl) rfl
end Go.Proofs.Ytgbhegmhbeekpaa
