/-
  No cell of these rows narrows 'for every input' (looked for: loops, veiled, ifaces, maps, wideKeys, modest, calm, conditions, laid).
  DERIVED. THE GIVEN ROWS OF THIS SEAT. 14 by the template 'for every input the law returns true; each argument reads behind the call as it read before'; 0 by the template 'total and deterministic' (their statements: YtgbhegmhbeekpaaGreatTotals.lean).
  GIVEN WITH THE SEED: the statements are not yours to turn. If you find one false, say at which input.
  Laid BY PROGRAM, IN A SANDBOX (cutbox-rows.mjs): the forced cells as the released guide's own fill.sh prints them over the translation 03284a26e8cd17b5… (all of the seat's roots in one cut). By AI agents, Wed Nov 11 2026. No macro, syntax, notation, axiom, sorry.
-/
import Derived.Test.YtgbhegmhbeekpaaGreatChecked
import GoSem.Claim
import GoSem.ClaimJoined
import GoSem.ClaimMapViews
import Derived.JoinedTies
import Derived.KernelRfl
namespace Go.Proofs.YtgbhegmhbeekpaaGreat
/- THE CELL 'sum', in the pinned program and in every row, IS THE sha256 OF THE DUMP (.gsa) THAT YtgbhegmhbeekpaaGreatProg.lean LOADS. Nothing in Lean hashes anything: it is a label: what it is worth is what the hold of that sum in a sandbox is worth. -/
noncomputable def Tryz.pinned : Pinned := { name := "ytgbhegmhbeekpaagreat", sum := "03284a26e8cd17b5a6ac62d217333de42c34f270672643e88427fbfcfa69d5b6", checked := Tryz.checked }
namespace Rows
def none {H : Type} : Left H := { results := [], args := [] }

/-- 'parquetrytop.TopProducts': WHATEVER THE INPUT: true; the input reads as it did. -/
def topProductsSpec : ChangeSpec := { name := "topProducts", fn := fun _ => fun
  | [d1, d2, d3, d4, d5, d6] => { results := [.lit (.bool true)], args := [d1, d2, d3, d4, d5, d6] }
  | _ => none }
def topProductsRow : OpenClaim := { program := "ytgbhegmhbeekpaagreat", sum := "03284a26e8cd17b5a6ac62d217333de42c34f270672643e88427fbfcfa69d5b6", func := "parquetry/parquetrytop.TopProducts", spec := "topProducts", unfollowed := true, recurses := true, plainKeys := false, apart := false }
def TopProductsSaid : Prop := topProductsRow.holds Tryz.pinned (OpenSpec.ofChange topProductsSpec)

/-- ITS FALSE NEIGHBOUR: 'it returns false'. Refute it at one input. -/
def topProductsWrong : ChangeSpec := { name := "topProducts", fn := fun _ => fun
  | [d1, d2, d3, d4, d5, d6] => { results := [.lit (.bool false)], args := [d1, d2, d3, d4, d5, d6] }
  | _ => none }
def TopProductsWrongFalsely : Prop := topProductsRow.holds Tryz.pinned (OpenSpec.ofChange topProductsWrong)

/-- 'parquetrylaw26.FairRounds': WHATEVER THE INPUT: true; the input reads as it did. -/
def fairRoundsSpec : ChangeSpec := { name := "fairRounds", fn := fun _ => fun
  | [d1, d2, d3] => { results := [.lit (.bool true)], args := [d1, d2, d3] }
  | _ => none }
def fairRoundsRow : OpenClaim := { program := "ytgbhegmhbeekpaagreat", sum := "03284a26e8cd17b5a6ac62d217333de42c34f270672643e88427fbfcfa69d5b6", func := "parquetry/parquetrylaw26.FairRounds", spec := "fairRounds", unfollowed := true, recurses := true, plainKeys := false, apart := false }
def FairRoundsSaid : Prop := fairRoundsRow.holds Tryz.pinned (OpenSpec.ofChange fairRoundsSpec)

/-- ITS FALSE NEIGHBOUR: 'it returns false'. Refute it at one input. -/
def fairRoundsWrong : ChangeSpec := { name := "fairRounds", fn := fun _ => fun
  | [d1, d2, d3] => { results := [.lit (.bool false)], args := [d1, d2, d3] }
  | _ => none }
def FairRoundsWrongFalsely : Prop := fairRoundsRow.holds Tryz.pinned (OpenSpec.ofChange fairRoundsWrong)

/-- 'parquetrytop.TopChains': WHATEVER THE INPUT: true; the input reads as it did. -/
def topChainsSpec : ChangeSpec := { name := "topChains", fn := fun _ => fun
  | [d1, d2, d3, d4, d5] => { results := [.lit (.bool true)], args := [d1, d2, d3, d4, d5] }
  | _ => none }
def topChainsRow : OpenClaim := { program := "ytgbhegmhbeekpaagreat", sum := "03284a26e8cd17b5a6ac62d217333de42c34f270672643e88427fbfcfa69d5b6", func := "parquetry/parquetrytop.TopChains", spec := "topChains", unfollowed := true, recurses := true, plainKeys := false, apart := false }
def TopChainsSaid : Prop := topChainsRow.holds Tryz.pinned (OpenSpec.ofChange topChainsSpec)

/-- ITS FALSE NEIGHBOUR: 'it returns false'. Refute it at one input. -/
def topChainsWrong : ChangeSpec := { name := "topChains", fn := fun _ => fun
  | [d1, d2, d3, d4, d5] => { results := [.lit (.bool false)], args := [d1, d2, d3, d4, d5] }
  | _ => none }
def TopChainsWrongFalsely : Prop := topChainsRow.holds Tryz.pinned (OpenSpec.ofChange topChainsWrong)

/-- 'parquetrylaw20.MachineOrders': WHATEVER THE INPUT: true; the input reads as it did. -/
def machineOrdersSpec : ChangeSpec := { name := "machineOrders", fn := fun _ => fun
  | [d1, d2, d3] => { results := [.lit (.bool true)], args := [d1, d2, d3] }
  | _ => none }
def machineOrdersRow : OpenClaim := { program := "ytgbhegmhbeekpaagreat", sum := "03284a26e8cd17b5a6ac62d217333de42c34f270672643e88427fbfcfa69d5b6", func := "parquetry/parquetrylaw20.MachineOrders", spec := "machineOrders", unfollowed := true, recurses := true, plainKeys := false, apart := false }
def MachineOrdersSaid : Prop := machineOrdersRow.holds Tryz.pinned (OpenSpec.ofChange machineOrdersSpec)

/-- ITS FALSE NEIGHBOUR: 'it returns false'. Refute it at one input. -/
def machineOrdersWrong : ChangeSpec := { name := "machineOrders", fn := fun _ => fun
  | [d1, d2, d3] => { results := [.lit (.bool false)], args := [d1, d2, d3] }
  | _ => none }
def MachineOrdersWrongFalsely : Prop := machineOrdersRow.holds Tryz.pinned (OpenSpec.ofChange machineOrdersWrong)

/-- 'parquetrylaw20.MachineLives': WHATEVER THE INPUT: true; the input reads as it did. -/
def machineLivesSpec : ChangeSpec := { name := "machineLives", fn := fun _ => fun
  | [d1, d2] => { results := [.lit (.bool true)], args := [d1, d2] }
  | _ => none }
def machineLivesRow : OpenClaim := { program := "ytgbhegmhbeekpaagreat", sum := "03284a26e8cd17b5a6ac62d217333de42c34f270672643e88427fbfcfa69d5b6", func := "parquetry/parquetrylaw20.MachineLives", spec := "machineLives", unfollowed := true, recurses := true, plainKeys := false, apart := false }
def MachineLivesSaid : Prop := machineLivesRow.holds Tryz.pinned (OpenSpec.ofChange machineLivesSpec)

/-- ITS FALSE NEIGHBOUR: 'it returns false'. Refute it at one input. -/
def machineLivesWrong : ChangeSpec := { name := "machineLives", fn := fun _ => fun
  | [d1, d2] => { results := [.lit (.bool false)], args := [d1, d2] }
  | _ => none }
def MachineLivesWrongFalsely : Prop := machineLivesRow.holds Tryz.pinned (OpenSpec.ofChange machineLivesWrong)

/-- 'parquetrylaw20.MachineOnce': WHATEVER THE INPUT: true; the input reads as it did. -/
def machineOnceSpec : ChangeSpec := { name := "machineOnce", fn := fun _ => fun
  | [d1, d2] => { results := [.lit (.bool true)], args := [d1, d2] }
  | _ => none }
def machineOnceRow : OpenClaim := { program := "ytgbhegmhbeekpaagreat", sum := "03284a26e8cd17b5a6ac62d217333de42c34f270672643e88427fbfcfa69d5b6", func := "parquetry/parquetrylaw20.MachineOnce", spec := "machineOnce", unfollowed := true, recurses := true, plainKeys := false, apart := false }
def MachineOnceSaid : Prop := machineOnceRow.holds Tryz.pinned (OpenSpec.ofChange machineOnceSpec)

/-- ITS FALSE NEIGHBOUR: 'it returns false'. Refute it at one input. -/
def machineOnceWrong : ChangeSpec := { name := "machineOnce", fn := fun _ => fun
  | [d1, d2] => { results := [.lit (.bool false)], args := [d1, d2] }
  | _ => none }
def MachineOnceWrongFalsely : Prop := machineOnceRow.holds Tryz.pinned (OpenSpec.ofChange machineOnceWrong)

/-- 'parquetrylaw28.TallySends': WHATEVER THE INPUT: true; the input reads as it did. -/
def tallySendsSpec : ChangeSpec := { name := "tallySends", fn := fun _ => fun
  | [d] => { results := [.lit (.bool true)], args := [d] }
  | _ => none }
def tallySendsRow : OpenClaim := { program := "ytgbhegmhbeekpaagreat", sum := "03284a26e8cd17b5a6ac62d217333de42c34f270672643e88427fbfcfa69d5b6", func := "parquetry/parquetrylaw28.TallySends", spec := "tallySends", unfollowed := true, recurses := true, plainKeys := false, apart := false }
def TallySendsSaid : Prop := tallySendsRow.holds Tryz.pinned (OpenSpec.ofChange tallySendsSpec)

/-- ITS FALSE NEIGHBOUR: 'it returns false'. Refute it at one input. -/
def tallySendsWrong : ChangeSpec := { name := "tallySends", fn := fun _ => fun
  | [d] => { results := [.lit (.bool false)], args := [d] }
  | _ => none }
def TallySendsWrongFalsely : Prop := tallySendsRow.holds Tryz.pinned (OpenSpec.ofChange tallySendsWrong)

/-- 'parquetrytop.TopSums': WHATEVER THE INPUT: true; the input reads as it did. -/
def topSumsSpec : ChangeSpec := { name := "topSums", fn := fun _ => fun
  | [d1, d2, d3, d4, d5] => { results := [.lit (.bool true)], args := [d1, d2, d3, d4, d5] }
  | _ => none }
def topSumsRow : OpenClaim := { program := "ytgbhegmhbeekpaagreat", sum := "03284a26e8cd17b5a6ac62d217333de42c34f270672643e88427fbfcfa69d5b6", func := "parquetry/parquetrytop.TopSums", spec := "topSums", unfollowed := true, recurses := true, plainKeys := false, apart := false }
def TopSumsSaid : Prop := topSumsRow.holds Tryz.pinned (OpenSpec.ofChange topSumsSpec)

/-- ITS FALSE NEIGHBOUR: 'it returns false'. Refute it at one input. -/
def topSumsWrong : ChangeSpec := { name := "topSums", fn := fun _ => fun
  | [d1, d2, d3, d4, d5] => { results := [.lit (.bool false)], args := [d1, d2, d3, d4, d5] }
  | _ => none }
def TopSumsWrongFalsely : Prop := topSumsRow.holds Tryz.pinned (OpenSpec.ofChange topSumsWrong)

/-- 'parquetrytop.TopMosts': WHATEVER THE INPUT: true; the input reads as it did. -/
def topMostsSpec : ChangeSpec := { name := "topMosts", fn := fun _ => fun
  | [d1, d2, d3, d4] => { results := [.lit (.bool true)], args := [d1, d2, d3, d4] }
  | _ => none }
def topMostsRow : OpenClaim := { program := "ytgbhegmhbeekpaagreat", sum := "03284a26e8cd17b5a6ac62d217333de42c34f270672643e88427fbfcfa69d5b6", func := "parquetry/parquetrytop.TopMosts", spec := "topMosts", unfollowed := true, recurses := true, plainKeys := false, apart := false }
def TopMostsSaid : Prop := topMostsRow.holds Tryz.pinned (OpenSpec.ofChange topMostsSpec)

/-- ITS FALSE NEIGHBOUR: 'it returns false'. Refute it at one input. -/
def topMostsWrong : ChangeSpec := { name := "topMosts", fn := fun _ => fun
  | [d1, d2, d3, d4] => { results := [.lit (.bool false)], args := [d1, d2, d3, d4] }
  | _ => none }
def TopMostsWrongFalsely : Prop := topMostsRow.holds Tryz.pinned (OpenSpec.ofChange topMostsWrong)

/-- 'parquetrytop.TopWindows': WHATEVER THE INPUT: true; the input reads as it did. -/
def topWindowsSpec : ChangeSpec := { name := "topWindows", fn := fun _ => fun
  | [d1, d2, d3, d4, d5, d6] => { results := [.lit (.bool true)], args := [d1, d2, d3, d4, d5, d6] }
  | _ => none }
def topWindowsRow : OpenClaim := { program := "ytgbhegmhbeekpaagreat", sum := "03284a26e8cd17b5a6ac62d217333de42c34f270672643e88427fbfcfa69d5b6", func := "parquetry/parquetrytop.TopWindows", spec := "topWindows", unfollowed := true, recurses := true, plainKeys := false, apart := false }
def TopWindowsSaid : Prop := topWindowsRow.holds Tryz.pinned (OpenSpec.ofChange topWindowsSpec)

/-- ITS FALSE NEIGHBOUR: 'it returns false'. Refute it at one input. -/
def topWindowsWrong : ChangeSpec := { name := "topWindows", fn := fun _ => fun
  | [d1, d2, d3, d4, d5, d6] => { results := [.lit (.bool false)], args := [d1, d2, d3, d4, d5, d6] }
  | _ => none }
def TopWindowsWrongFalsely : Prop := topWindowsRow.holds Tryz.pinned (OpenSpec.ofChange topWindowsWrong)

/-- 'parquetrytop.TopTurns': WHATEVER THE INPUT: true; the input reads as it did. -/
def topTurnsSpec : ChangeSpec := { name := "topTurns", fn := fun _ => fun
  | [d1, d2, d3, d4, d5] => { results := [.lit (.bool true)], args := [d1, d2, d3, d4, d5] }
  | _ => none }
def topTurnsRow : OpenClaim := { program := "ytgbhegmhbeekpaagreat", sum := "03284a26e8cd17b5a6ac62d217333de42c34f270672643e88427fbfcfa69d5b6", func := "parquetry/parquetrytop.TopTurns", spec := "topTurns", unfollowed := true, recurses := true, plainKeys := false, apart := false }
def TopTurnsSaid : Prop := topTurnsRow.holds Tryz.pinned (OpenSpec.ofChange topTurnsSpec)

/-- ITS FALSE NEIGHBOUR: 'it returns false'. Refute it at one input. -/
def topTurnsWrong : ChangeSpec := { name := "topTurns", fn := fun _ => fun
  | [d1, d2, d3, d4, d5] => { results := [.lit (.bool false)], args := [d1, d2, d3, d4, d5] }
  | _ => none }
def TopTurnsWrongFalsely : Prop := topTurnsRow.holds Tryz.pinned (OpenSpec.ofChange topTurnsWrong)

/-- 'parquetrytop.TopCuts': WHATEVER THE INPUT: true; the input reads as it did. -/
def topCutsSpec : ChangeSpec := { name := "topCuts", fn := fun _ => fun
  | [d1, d2, d3, d4, d5, d6] => { results := [.lit (.bool true)], args := [d1, d2, d3, d4, d5, d6] }
  | _ => none }
def topCutsRow : OpenClaim := { program := "ytgbhegmhbeekpaagreat", sum := "03284a26e8cd17b5a6ac62d217333de42c34f270672643e88427fbfcfa69d5b6", func := "parquetry/parquetrytop.TopCuts", spec := "topCuts", unfollowed := true, recurses := true, plainKeys := false, apart := false }
def TopCutsSaid : Prop := topCutsRow.holds Tryz.pinned (OpenSpec.ofChange topCutsSpec)

/-- ITS FALSE NEIGHBOUR: 'it returns false'. Refute it at one input. -/
def topCutsWrong : ChangeSpec := { name := "topCuts", fn := fun _ => fun
  | [d1, d2, d3, d4, d5, d6] => { results := [.lit (.bool false)], args := [d1, d2, d3, d4, d5, d6] }
  | _ => none }
def TopCutsWrongFalsely : Prop := topCutsRow.holds Tryz.pinned (OpenSpec.ofChange topCutsWrong)

/-- 'parquetrytop.TopOuters': WHATEVER THE INPUT: true; the input reads as it did. -/
def topOutersSpec : ChangeSpec := { name := "topOuters", fn := fun _ => fun
  | [d1, d2, d3, d4, d5] => { results := [.lit (.bool true)], args := [d1, d2, d3, d4, d5] }
  | _ => none }
def topOutersRow : OpenClaim := { program := "ytgbhegmhbeekpaagreat", sum := "03284a26e8cd17b5a6ac62d217333de42c34f270672643e88427fbfcfa69d5b6", func := "parquetry/parquetrytop.TopOuters", spec := "topOuters", unfollowed := true, recurses := true, plainKeys := false, apart := false }
def TopOutersSaid : Prop := topOutersRow.holds Tryz.pinned (OpenSpec.ofChange topOutersSpec)

/-- ITS FALSE NEIGHBOUR: 'it returns false'. Refute it at one input. -/
def topOutersWrong : ChangeSpec := { name := "topOuters", fn := fun _ => fun
  | [d1, d2, d3, d4, d5] => { results := [.lit (.bool false)], args := [d1, d2, d3, d4, d5] }
  | _ => none }
def TopOutersWrongFalsely : Prop := topOutersRow.holds Tryz.pinned (OpenSpec.ofChange topOutersWrong)

/-- 'parquetrytop.TopBatches': WHATEVER THE INPUT: true; the input reads as it did. -/
def topBatchesSpec : ChangeSpec := { name := "topBatches", fn := fun _ => fun
  | [d1, d2, d3, d4, d5] => { results := [.lit (.bool true)], args := [d1, d2, d3, d4, d5] }
  | _ => none }
def topBatchesRow : OpenClaim := { program := "ytgbhegmhbeekpaagreat", sum := "03284a26e8cd17b5a6ac62d217333de42c34f270672643e88427fbfcfa69d5b6", func := "parquetry/parquetrytop.TopBatches", spec := "topBatches", unfollowed := true, recurses := true, plainKeys := false, apart := false }
def TopBatchesSaid : Prop := topBatchesRow.holds Tryz.pinned (OpenSpec.ofChange topBatchesSpec)

/-- ITS FALSE NEIGHBOUR: 'it returns false'. Refute it at one input. -/
def topBatchesWrong : ChangeSpec := { name := "topBatches", fn := fun _ => fun
  | [d1, d2, d3, d4, d5] => { results := [.lit (.bool false)], args := [d1, d2, d3, d4, d5] }
  | _ => none }
def TopBatchesWrongFalsely : Prop := topBatchesRow.holds Tryz.pinned (OpenSpec.ofChange topBatchesWrong)

/- THE SECOND FORM. 'bulk': how many values and letters a reading holds, each counted each time it is reached (what is shared counts as often as it is met; a slice's spare places count too). A statement '..UptoSaid' is the law's where the arguments, and the package variables that the reading takes, are together of bulk at most 1048576: NARROWER than '..Said'. Prove '..Said' where nothing that the law and all that it calls make is longer than what came in: it says more and counts as full. Else prove '..UptoSaid'. A law counts once. -/
mutual
def uptoBulk {H : Type} : DataW H → Nat
  | .lit (.string bytes) => bytes.length + 1
  | .lit _ => 1
  | .nil => 1
  | .ptr d => uptoBulk d + 1
  | .slice elems spare => uptoBulkAll elems + uptoBulkAll spare + 1
  | .agg parts => uptoBulkAll parts + 1
  | .iface _ d => uptoBulk d + 1
  | .map entries => uptoBulkEntries entries + 1
  | .held _ => 1
def uptoBulkAll {H : Type} : List (DataW H) → Nat
  | [] => 0
  | d :: r => uptoBulk d + uptoBulkAll r
def uptoBulkEntries {H : Type} : List (Lit × DataW H) → Nat
  | [] => 0
  | x :: r => uptoBulkEntry x + uptoBulkEntries r
def uptoBulkEntry {H : Type} : Lit × DataW H → Nat
  | (.string bytes, d) => bytes.length + uptoBulk d + 1
  | (_, d) => uptoBulk d + 1
 end
def uptoSmall : (H : Type) → List (DataW H) → Bool := fun _ ds => decide (uptoBulkAll ds ≤ 1048576)
def OpenSpec.upto (s : _root_.Go.ChangeSpec) : _root_.Go.OpenSpec := { _root_.Go.OpenSpec.ofChange s with cond := some uptoSmall }

/-- 'parquetrytop.TopProducts', WHERE WHAT IT READS IS OF BULK AT MOST 1048576: true; the input reads as it did. -/
def topProductsUptoRow : OpenClaim := { program := "ytgbhegmhbeekpaagreat", sum := "03284a26e8cd17b5a6ac62d217333de42c34f270672643e88427fbfcfa69d5b6", func := "parquetry/parquetrytop.TopProducts", spec := "topProducts", unfollowed := true, recurses := true, plainKeys := false, apart := false, narrowed := true }
def TopProductsUptoSaid : Prop := topProductsUptoRow.holds Tryz.pinned (OpenSpec.upto topProductsSpec)

/-- 'parquetrylaw26.FairRounds', WHERE WHAT IT READS IS OF BULK AT MOST 1048576: true; the input reads as it did. -/
def fairRoundsUptoRow : OpenClaim := { program := "ytgbhegmhbeekpaagreat", sum := "03284a26e8cd17b5a6ac62d217333de42c34f270672643e88427fbfcfa69d5b6", func := "parquetry/parquetrylaw26.FairRounds", spec := "fairRounds", unfollowed := true, recurses := true, plainKeys := false, apart := false, narrowed := true }
def FairRoundsUptoSaid : Prop := fairRoundsUptoRow.holds Tryz.pinned (OpenSpec.upto fairRoundsSpec)

/-- 'parquetrytop.TopChains', WHERE WHAT IT READS IS OF BULK AT MOST 1048576: true; the input reads as it did. -/
def topChainsUptoRow : OpenClaim := { program := "ytgbhegmhbeekpaagreat", sum := "03284a26e8cd17b5a6ac62d217333de42c34f270672643e88427fbfcfa69d5b6", func := "parquetry/parquetrytop.TopChains", spec := "topChains", unfollowed := true, recurses := true, plainKeys := false, apart := false, narrowed := true }
def TopChainsUptoSaid : Prop := topChainsUptoRow.holds Tryz.pinned (OpenSpec.upto topChainsSpec)

/-- 'parquetrylaw20.MachineOrders', WHERE WHAT IT READS IS OF BULK AT MOST 1048576: true; the input reads as it did. -/
def machineOrdersUptoRow : OpenClaim := { program := "ytgbhegmhbeekpaagreat", sum := "03284a26e8cd17b5a6ac62d217333de42c34f270672643e88427fbfcfa69d5b6", func := "parquetry/parquetrylaw20.MachineOrders", spec := "machineOrders", unfollowed := true, recurses := true, plainKeys := false, apart := false, narrowed := true }
def MachineOrdersUptoSaid : Prop := machineOrdersUptoRow.holds Tryz.pinned (OpenSpec.upto machineOrdersSpec)

/-- 'parquetrylaw20.MachineLives', WHERE WHAT IT READS IS OF BULK AT MOST 1048576: true; the input reads as it did. -/
def machineLivesUptoRow : OpenClaim := { program := "ytgbhegmhbeekpaagreat", sum := "03284a26e8cd17b5a6ac62d217333de42c34f270672643e88427fbfcfa69d5b6", func := "parquetry/parquetrylaw20.MachineLives", spec := "machineLives", unfollowed := true, recurses := true, plainKeys := false, apart := false, narrowed := true }
def MachineLivesUptoSaid : Prop := machineLivesUptoRow.holds Tryz.pinned (OpenSpec.upto machineLivesSpec)

/-- 'parquetrylaw20.MachineOnce', WHERE WHAT IT READS IS OF BULK AT MOST 1048576: true; the input reads as it did. -/
def machineOnceUptoRow : OpenClaim := { program := "ytgbhegmhbeekpaagreat", sum := "03284a26e8cd17b5a6ac62d217333de42c34f270672643e88427fbfcfa69d5b6", func := "parquetry/parquetrylaw20.MachineOnce", spec := "machineOnce", unfollowed := true, recurses := true, plainKeys := false, apart := false, narrowed := true }
def MachineOnceUptoSaid : Prop := machineOnceUptoRow.holds Tryz.pinned (OpenSpec.upto machineOnceSpec)

/-- 'parquetrylaw28.TallySends', WHERE WHAT IT READS IS OF BULK AT MOST 1048576: true; the input reads as it did. -/
def tallySendsUptoRow : OpenClaim := { program := "ytgbhegmhbeekpaagreat", sum := "03284a26e8cd17b5a6ac62d217333de42c34f270672643e88427fbfcfa69d5b6", func := "parquetry/parquetrylaw28.TallySends", spec := "tallySends", unfollowed := true, recurses := true, plainKeys := false, apart := false, narrowed := true }
def TallySendsUptoSaid : Prop := tallySendsUptoRow.holds Tryz.pinned (OpenSpec.upto tallySendsSpec)

/-- 'parquetrytop.TopSums', WHERE WHAT IT READS IS OF BULK AT MOST 1048576: true; the input reads as it did. -/
def topSumsUptoRow : OpenClaim := { program := "ytgbhegmhbeekpaagreat", sum := "03284a26e8cd17b5a6ac62d217333de42c34f270672643e88427fbfcfa69d5b6", func := "parquetry/parquetrytop.TopSums", spec := "topSums", unfollowed := true, recurses := true, plainKeys := false, apart := false, narrowed := true }
def TopSumsUptoSaid : Prop := topSumsUptoRow.holds Tryz.pinned (OpenSpec.upto topSumsSpec)

/-- 'parquetrytop.TopMosts', WHERE WHAT IT READS IS OF BULK AT MOST 1048576: true; the input reads as it did. -/
def topMostsUptoRow : OpenClaim := { program := "ytgbhegmhbeekpaagreat", sum := "03284a26e8cd17b5a6ac62d217333de42c34f270672643e88427fbfcfa69d5b6", func := "parquetry/parquetrytop.TopMosts", spec := "topMosts", unfollowed := true, recurses := true, plainKeys := false, apart := false, narrowed := true }
def TopMostsUptoSaid : Prop := topMostsUptoRow.holds Tryz.pinned (OpenSpec.upto topMostsSpec)

/-- 'parquetrytop.TopWindows', WHERE WHAT IT READS IS OF BULK AT MOST 1048576: true; the input reads as it did. -/
def topWindowsUptoRow : OpenClaim := { program := "ytgbhegmhbeekpaagreat", sum := "03284a26e8cd17b5a6ac62d217333de42c34f270672643e88427fbfcfa69d5b6", func := "parquetry/parquetrytop.TopWindows", spec := "topWindows", unfollowed := true, recurses := true, plainKeys := false, apart := false, narrowed := true }
def TopWindowsUptoSaid : Prop := topWindowsUptoRow.holds Tryz.pinned (OpenSpec.upto topWindowsSpec)

/-- 'parquetrytop.TopTurns', WHERE WHAT IT READS IS OF BULK AT MOST 1048576: true; the input reads as it did. -/
def topTurnsUptoRow : OpenClaim := { program := "ytgbhegmhbeekpaagreat", sum := "03284a26e8cd17b5a6ac62d217333de42c34f270672643e88427fbfcfa69d5b6", func := "parquetry/parquetrytop.TopTurns", spec := "topTurns", unfollowed := true, recurses := true, plainKeys := false, apart := false, narrowed := true }
def TopTurnsUptoSaid : Prop := topTurnsUptoRow.holds Tryz.pinned (OpenSpec.upto topTurnsSpec)

/-- 'parquetrytop.TopCuts', WHERE WHAT IT READS IS OF BULK AT MOST 1048576: true; the input reads as it did. -/
def topCutsUptoRow : OpenClaim := { program := "ytgbhegmhbeekpaagreat", sum := "03284a26e8cd17b5a6ac62d217333de42c34f270672643e88427fbfcfa69d5b6", func := "parquetry/parquetrytop.TopCuts", spec := "topCuts", unfollowed := true, recurses := true, plainKeys := false, apart := false, narrowed := true }
def TopCutsUptoSaid : Prop := topCutsUptoRow.holds Tryz.pinned (OpenSpec.upto topCutsSpec)

/-- 'parquetrytop.TopOuters', WHERE WHAT IT READS IS OF BULK AT MOST 1048576: true; the input reads as it did. -/
def topOutersUptoRow : OpenClaim := { program := "ytgbhegmhbeekpaagreat", sum := "03284a26e8cd17b5a6ac62d217333de42c34f270672643e88427fbfcfa69d5b6", func := "parquetry/parquetrytop.TopOuters", spec := "topOuters", unfollowed := true, recurses := true, plainKeys := false, apart := false, narrowed := true }
def TopOutersUptoSaid : Prop := topOutersUptoRow.holds Tryz.pinned (OpenSpec.upto topOutersSpec)

/-- 'parquetrytop.TopBatches', WHERE WHAT IT READS IS OF BULK AT MOST 1048576: true; the input reads as it did. -/
def topBatchesUptoRow : OpenClaim := { program := "ytgbhegmhbeekpaagreat", sum := "03284a26e8cd17b5a6ac62d217333de42c34f270672643e88427fbfcfa69d5b6", func := "parquetry/parquetrytop.TopBatches", spec := "topBatches", unfollowed := true, recurses := true, plainKeys := false, apart := false, narrowed := true }
def TopBatchesUptoSaid : Prop := topBatchesUptoRow.holds Tryz.pinned (OpenSpec.upto topBatchesSpec)

end Rows
end Go.Proofs.YtgbhegmhbeekpaaGreat
