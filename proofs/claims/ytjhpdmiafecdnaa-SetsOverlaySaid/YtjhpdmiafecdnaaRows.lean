/-
  No cell of these rows narrows 'for every input' (looked for: loops, veiled, ifaces, maps, wideKeys, modest, calm, conditions, laid).
  DERIVED. THE GIVEN ROWS OF THIS SEAT. 18 by the template 'for every input the law returns true; each argument reads behind the call as it read before'; 0 by the template 'total and deterministic' (their statements: YtjhpdmiafecdnaaTotals.lean).
  GIVEN WITH THE SEED: the statements are not yours to turn. If you find one false, say at which input.
  Laid BY PROGRAM, IN A SANDBOX (cutbox-rows.mjs): the forced cells as the released guide's own fill.sh prints them over the translation bea3fcd8fe1b945b… (all of the seat's roots in one cut). By AI agents, Wed Nov 11 2026. No macro, syntax, notation, axiom, sorry.
-/
import Derived.Test.YtjhpdmiafecdnaaChecked
import GoSem.Claim
import GoSem.ClaimJoined
import GoSem.ClaimMapViews
import Derived.JoinedTies
import Derived.KernelRfl
namespace Go.Proofs.Ytjhpdmiafecdnaa
/- THE CELL 'sum', in the pinned program and in every row, IS THE sha256 OF THE DUMP (.gsa) THAT YtjhpdmiafecdnaaProg.lean LOADS. Nothing in Lean hashes anything: it is a label: what it is worth is what the hold of that sum in a sandbox is worth. -/
noncomputable def Try.pinned : Pinned := { name := "ytjhpdmiafecdnaa", sum := "bea3fcd8fe1b945be029912eb93d9b94858e6b4dfa3ef3d5269285c651092abd", checked := Try.checked }
namespace Rows
def none {H : Type} : Left H := { results := [], args := [] }

/-- 'cobweblaw09.CellOrders': WHATEVER THE INPUT: true; the input reads as it did. -/
def cellOrdersSpec : ChangeSpec := { name := "cellOrders", fn := fun _ => fun
  | [d1, d2, d3] => { results := [.lit (.bool true)], args := [d1, d2, d3] }
  | _ => none }
def cellOrdersRow : OpenClaim := { program := "ytjhpdmiafecdnaa", sum := "bea3fcd8fe1b945be029912eb93d9b94858e6b4dfa3ef3d5269285c651092abd", func := "cobweb/cobweblaw09.CellOrders", spec := "cellOrders", inPlace := ["internal/bytealg.abigen_runtime_cmpstring"], plainKeys := false, apart := false }
def CellOrdersSaid : Prop := cellOrdersRow.holds Try.pinned (OpenSpec.ofChange cellOrdersSpec)

/-- ITS FALSE NEIGHBOUR: 'it returns false'. Refute it at one input. -/
def cellOrdersWrong : ChangeSpec := { name := "cellOrders", fn := fun _ => fun
  | [d1, d2, d3] => { results := [.lit (.bool false)], args := [d1, d2, d3] }
  | _ => none }
def CellOrdersWrongFalsely : Prop := cellOrdersRow.holds Try.pinned (OpenSpec.ofChange cellOrdersWrong)

/-- 'cobweblaw09.CellStays': WHATEVER THE INPUT: true; the input reads as it did. -/
def cellStaysSpec : ChangeSpec := { name := "cellStays", fn := fun _ => fun
  | [d1, d2, d3] => { results := [.lit (.bool true)], args := [d1, d2, d3] }
  | _ => none }
def cellStaysRow : OpenClaim := { program := "ytjhpdmiafecdnaa", sum := "bea3fcd8fe1b945be029912eb93d9b94858e6b4dfa3ef3d5269285c651092abd", func := "cobweb/cobweblaw09.CellStays", spec := "cellStays", plainKeys := false, apart := false }
def CellStaysSaid : Prop := cellStaysRow.holds Try.pinned (OpenSpec.ofChange cellStaysSpec)

/-- ITS FALSE NEIGHBOUR: 'it returns false'. Refute it at one input. -/
def cellStaysWrong : ChangeSpec := { name := "cellStays", fn := fun _ => fun
  | [d1, d2, d3] => { results := [.lit (.bool false)], args := [d1, d2, d3] }
  | _ => none }
def CellStaysWrongFalsely : Prop := cellStaysRow.holds Try.pinned (OpenSpec.ofChange cellStaysWrong)

/-- 'cobweblaw14.RedoRecovers': WHATEVER THE INPUT: true; the input reads as it did. -/
def redoRecoversSpec : ChangeSpec := { name := "redoRecovers", fn := fun _ => fun
  | [d] => { results := [.lit (.bool true)], args := [d] }
  | _ => none }
def redoRecoversRow : OpenClaim := { program := "ytjhpdmiafecdnaa", sum := "bea3fcd8fe1b945be029912eb93d9b94858e6b4dfa3ef3d5269285c651092abd", func := "cobweb/cobweblaw14.RedoRecovers", spec := "redoRecovers", inPlace := ["internal/bytealg.abigen_runtime_cmpstring"], unfollowed := true, recurses := true, plainKeys := false, apart := false }
def RedoRecoversSaid : Prop := redoRecoversRow.holds Try.pinned (OpenSpec.ofChange redoRecoversSpec)

/-- ITS FALSE NEIGHBOUR: 'it returns false'. Refute it at one input. -/
def redoRecoversWrong : ChangeSpec := { name := "redoRecovers", fn := fun _ => fun
  | [d] => { results := [.lit (.bool false)], args := [d] }
  | _ => none }
def RedoRecoversWrongFalsely : Prop := redoRecoversRow.holds Try.pinned (OpenSpec.ofChange redoRecoversWrong)

/-- 'cobweblaw14.RedoCuts': WHATEVER THE INPUT: true; the input reads as it did. -/
def redoCutsSpec : ChangeSpec := { name := "redoCuts", fn := fun _ => fun
  | [d1, d2] => { results := [.lit (.bool true)], args := [d1, d2] }
  | _ => none }
def redoCutsRow : OpenClaim := { program := "ytjhpdmiafecdnaa", sum := "bea3fcd8fe1b945be029912eb93d9b94858e6b4dfa3ef3d5269285c651092abd", func := "cobweb/cobweblaw14.RedoCuts", spec := "redoCuts", inPlace := ["internal/bytealg.abigen_runtime_cmpstring"], unfollowed := true, recurses := true, plainKeys := false, apart := false }
def RedoCutsSaid : Prop := redoCutsRow.holds Try.pinned (OpenSpec.ofChange redoCutsSpec)

/-- ITS FALSE NEIGHBOUR: 'it returns false'. Refute it at one input. -/
def redoCutsWrong : ChangeSpec := { name := "redoCuts", fn := fun _ => fun
  | [d1, d2] => { results := [.lit (.bool false)], args := [d1, d2] }
  | _ => none }
def RedoCutsWrongFalsely : Prop := redoCutsRow.holds Try.pinned (OpenSpec.ofChange redoCutsWrong)

/-- 'cobweblaw14.RedoBack': WHATEVER THE INPUT: true; the input reads as it did. -/
def redoBackSpec : ChangeSpec := { name := "redoBack", fn := fun _ => fun
  | [d1, d2] => { results := [.lit (.bool true)], args := [d1, d2] }
  | _ => none }
def redoBackRow : OpenClaim := { program := "ytjhpdmiafecdnaa", sum := "bea3fcd8fe1b945be029912eb93d9b94858e6b4dfa3ef3d5269285c651092abd", func := "cobweb/cobweblaw14.RedoBack", spec := "redoBack", inPlace := ["internal/bytealg.abigen_runtime_cmpstring"], unfollowed := true, recurses := true, plainKeys := false, apart := false }
def RedoBackSaid : Prop := redoBackRow.holds Try.pinned (OpenSpec.ofChange redoBackSpec)

/-- ITS FALSE NEIGHBOUR: 'it returns false'. Refute it at one input. -/
def redoBackWrong : ChangeSpec := { name := "redoBack", fn := fun _ => fun
  | [d1, d2] => { results := [.lit (.bool false)], args := [d1, d2] }
  | _ => none }
def RedoBackWrongFalsely : Prop := redoBackRow.holds Try.pinned (OpenSpec.ofChange redoBackWrong)

/-- 'cobweblaw14.RedoParses': WHATEVER THE INPUT: true; the input reads as it did. -/
def redoParsesSpec : ChangeSpec := { name := "redoParses", fn := fun _ => fun
  | [d1, d2, d3] => { results := [.lit (.bool true)], args := [d1, d2, d3] }
  | _ => none }
def redoParsesRow : OpenClaim := { program := "ytjhpdmiafecdnaa", sum := "bea3fcd8fe1b945be029912eb93d9b94858e6b4dfa3ef3d5269285c651092abd", func := "cobweb/cobweblaw14.RedoParses", spec := "redoParses", inPlace := ["internal/bytealg.abigen_runtime_cmpstring"], unfollowed := true, recurses := true, plainKeys := false, apart := false }
def RedoParsesSaid : Prop := redoParsesRow.holds Try.pinned (OpenSpec.ofChange redoParsesSpec)

/-- ITS FALSE NEIGHBOUR: 'it returns false'. Refute it at one input. -/
def redoParsesWrong : ChangeSpec := { name := "redoParses", fn := fun _ => fun
  | [d1, d2, d3] => { results := [.lit (.bool false)], args := [d1, d2, d3] }
  | _ => none }
def RedoParsesWrongFalsely : Prop := redoParsesRow.holds Try.pinned (OpenSpec.ofChange redoParsesWrong)

/-- 'cobweblaw13.SetsActs': WHATEVER THE INPUT: true; the input reads as it did. -/
def setsActsSpec : ChangeSpec := { name := "setsActs", fn := fun _ => fun
  | [d] => { results := [.lit (.bool true)], args := [d] }
  | _ => none }
def setsActsRow : OpenClaim := { program := "ytjhpdmiafecdnaa", sum := "bea3fcd8fe1b945be029912eb93d9b94858e6b4dfa3ef3d5269285c651092abd", func := "cobweb/cobweblaw13.SetsActs", spec := "setsActs", inPlace := ["internal/bytealg.abigen_runtime_cmpstring", "maps.clone"], unfollowed := true, recurses := true, plainKeys := false, apart := false }
def SetsActsSaid : Prop := setsActsRow.holds Try.pinned (OpenSpec.ofChange setsActsSpec)

/-- ITS FALSE NEIGHBOUR: 'it returns false'. Refute it at one input. -/
def setsActsWrong : ChangeSpec := { name := "setsActs", fn := fun _ => fun
  | [d] => { results := [.lit (.bool false)], args := [d] }
  | _ => none }
def SetsActsWrongFalsely : Prop := setsActsRow.holds Try.pinned (OpenSpec.ofChange setsActsWrong)

/-- 'cobweblaw13.SetsOverlay': WHATEVER THE INPUT: true; the input reads as it did. -/
def setsOverlaySpec : ChangeSpec := { name := "setsOverlay", fn := fun _ => fun
  | [d1, d2, d3] => { results := [.lit (.bool true)], args := [d1, d2, d3] }
  | _ => none }
def setsOverlayRow : OpenClaim := { program := "ytjhpdmiafecdnaa", sum := "bea3fcd8fe1b945be029912eb93d9b94858e6b4dfa3ef3d5269285c651092abd", func := "cobweb/cobweblaw13.SetsOverlay", spec := "setsOverlay", inPlace := ["internal/bytealg.abigen_runtime_cmpstring", "maps.clone"], unfollowed := true, recurses := true, plainKeys := false, apart := false }
def SetsOverlaySaid : Prop := setsOverlayRow.holds Try.pinned (OpenSpec.ofChange setsOverlaySpec)

/-- ITS FALSE NEIGHBOUR: 'it returns false'. Refute it at one input. -/
def setsOverlayWrong : ChangeSpec := { name := "setsOverlay", fn := fun _ => fun
  | [d1, d2, d3] => { results := [.lit (.bool false)], args := [d1, d2, d3] }
  | _ => none }
def SetsOverlayWrongFalsely : Prop := setsOverlayRow.holds Try.pinned (OpenSpec.ofChange setsOverlayWrong)

/-- 'cobweblaw13.SetsBack': WHATEVER THE INPUT: true; the input reads as it did. -/
def setsBackSpec : ChangeSpec := { name := "setsBack", fn := fun _ => fun
  | [d1, d2] => { results := [.lit (.bool true)], args := [d1, d2] }
  | _ => none }
def setsBackRow : OpenClaim := { program := "ytjhpdmiafecdnaa", sum := "bea3fcd8fe1b945be029912eb93d9b94858e6b4dfa3ef3d5269285c651092abd", func := "cobweb/cobweblaw13.SetsBack", spec := "setsBack", inPlace := ["internal/bytealg.abigen_runtime_cmpstring", "maps.clone"], unfollowed := true, recurses := true, plainKeys := false, apart := false }
def SetsBackSaid : Prop := setsBackRow.holds Try.pinned (OpenSpec.ofChange setsBackSpec)

/-- ITS FALSE NEIGHBOUR: 'it returns false'. Refute it at one input. -/
def setsBackWrong : ChangeSpec := { name := "setsBack", fn := fun _ => fun
  | [d1, d2] => { results := [.lit (.bool false)], args := [d1, d2] }
  | _ => none }
def SetsBackWrongFalsely : Prop := setsBackRow.holds Try.pinned (OpenSpec.ofChange setsBackWrong)

/-- 'cobweblaw15.JournalRooms': WHATEVER THE INPUT: true; the input reads as it did. -/
def journalRoomsSpec : ChangeSpec := { name := "journalRooms", fn := fun _ => fun
  | [d1, d2, d3] => { results := [.lit (.bool true)], args := [d1, d2, d3] }
  | _ => none }
def journalRoomsRow : OpenClaim := { program := "ytjhpdmiafecdnaa", sum := "bea3fcd8fe1b945be029912eb93d9b94858e6b4dfa3ef3d5269285c651092abd", func := "cobweb/cobweblaw15.JournalRooms", spec := "journalRooms", inPlace := ["internal/bytealg.abigen_runtime_cmpstring"], unfollowed := true, recurses := true, plainKeys := false, apart := false }
def JournalRoomsSaid : Prop := journalRoomsRow.holds Try.pinned (OpenSpec.ofChange journalRoomsSpec)

/-- ITS FALSE NEIGHBOUR: 'it returns false'. Refute it at one input. -/
def journalRoomsWrong : ChangeSpec := { name := "journalRooms", fn := fun _ => fun
  | [d1, d2, d3] => { results := [.lit (.bool false)], args := [d1, d2, d3] }
  | _ => none }
def JournalRoomsWrongFalsely : Prop := journalRoomsRow.holds Try.pinned (OpenSpec.ofChange journalRoomsWrong)

/-- 'cobweblaw15.JournalKeeps': WHATEVER THE INPUT: true; the input reads as it did. -/
def journalKeepsSpec : ChangeSpec := { name := "journalKeeps", fn := fun _ => fun
  | [d1, d2, d3] => { results := [.lit (.bool true)], args := [d1, d2, d3] }
  | _ => none }
def journalKeepsRow : OpenClaim := { program := "ytjhpdmiafecdnaa", sum := "bea3fcd8fe1b945be029912eb93d9b94858e6b4dfa3ef3d5269285c651092abd", func := "cobweb/cobweblaw15.JournalKeeps", spec := "journalKeeps", inPlace := ["internal/bytealg.abigen_runtime_cmpstring"], unfollowed := true, recurses := true, plainKeys := false, apart := false }
def JournalKeepsSaid : Prop := journalKeepsRow.holds Try.pinned (OpenSpec.ofChange journalKeepsSpec)

/-- ITS FALSE NEIGHBOUR: 'it returns false'. Refute it at one input. -/
def journalKeepsWrong : ChangeSpec := { name := "journalKeeps", fn := fun _ => fun
  | [d1, d2, d3] => { results := [.lit (.bool false)], args := [d1, d2, d3] }
  | _ => none }
def JournalKeepsWrongFalsely : Prop := journalKeepsRow.holds Try.pinned (OpenSpec.ofChange journalKeepsWrong)

/-- 'cobweblaw15.JournalAgain': WHATEVER THE INPUT: true; the input reads as it did. -/
def journalAgainSpec : ChangeSpec := { name := "journalAgain", fn := fun _ => fun
  | [d1, d2] => { results := [.lit (.bool true)], args := [d1, d2] }
  | _ => none }
def journalAgainRow : OpenClaim := { program := "ytjhpdmiafecdnaa", sum := "bea3fcd8fe1b945be029912eb93d9b94858e6b4dfa3ef3d5269285c651092abd", func := "cobweb/cobweblaw15.JournalAgain", spec := "journalAgain", inPlace := ["internal/bytealg.abigen_runtime_cmpstring"], unfollowed := true, recurses := true, plainKeys := false, apart := false }
def JournalAgainSaid : Prop := journalAgainRow.holds Try.pinned (OpenSpec.ofChange journalAgainSpec)

/-- ITS FALSE NEIGHBOUR: 'it returns false'. Refute it at one input. -/
def journalAgainWrong : ChangeSpec := { name := "journalAgain", fn := fun _ => fun
  | [d1, d2] => { results := [.lit (.bool false)], args := [d1, d2] }
  | _ => none }
def JournalAgainWrongFalsely : Prop := journalAgainRow.holds Try.pinned (OpenSpec.ofChange journalAgainWrong)

/-- 'cobweblaw09.CellRooms': WHATEVER THE INPUT: true; the input reads as it did. -/
def cellRoomsSpec : ChangeSpec := { name := "cellRooms", fn := fun _ => fun
  | [d1, d2] => { results := [.lit (.bool true)], args := [d1, d2] }
  | _ => none }
def cellRoomsRow : OpenClaim := { program := "ytjhpdmiafecdnaa", sum := "bea3fcd8fe1b945be029912eb93d9b94858e6b4dfa3ef3d5269285c651092abd", func := "cobweb/cobweblaw09.CellRooms", spec := "cellRooms", inPlace := ["internal/bytealg.abigen_runtime_cmpstring"], unfollowed := true, recurses := true, plainKeys := false, apart := false }
def CellRoomsSaid : Prop := cellRoomsRow.holds Try.pinned (OpenSpec.ofChange cellRoomsSpec)

/-- ITS FALSE NEIGHBOUR: 'it returns false'. Refute it at one input. -/
def cellRoomsWrong : ChangeSpec := { name := "cellRooms", fn := fun _ => fun
  | [d1, d2] => { results := [.lit (.bool false)], args := [d1, d2] }
  | _ => none }
def CellRoomsWrongFalsely : Prop := cellRoomsRow.holds Try.pinned (OpenSpec.ofChange cellRoomsWrong)

/-- 'cobweblaw15.JournalActs': WHATEVER THE INPUT: true; the input reads as it did. -/
def journalActsSpec : ChangeSpec := { name := "journalActs", fn := fun _ => fun
  | [d1, d2, d3] => { results := [.lit (.bool true)], args := [d1, d2, d3] }
  | _ => none }
def journalActsRow : OpenClaim := { program := "ytjhpdmiafecdnaa", sum := "bea3fcd8fe1b945be029912eb93d9b94858e6b4dfa3ef3d5269285c651092abd", func := "cobweb/cobweblaw15.JournalActs", spec := "journalActs", inPlace := ["internal/bytealg.abigen_runtime_cmpstring"], unfollowed := true, recurses := true, plainKeys := false, apart := false }
def JournalActsSaid : Prop := journalActsRow.holds Try.pinned (OpenSpec.ofChange journalActsSpec)

/-- ITS FALSE NEIGHBOUR: 'it returns false'. Refute it at one input. -/
def journalActsWrong : ChangeSpec := { name := "journalActs", fn := fun _ => fun
  | [d1, d2, d3] => { results := [.lit (.bool false)], args := [d1, d2, d3] }
  | _ => none }
def JournalActsWrongFalsely : Prop := journalActsRow.holds Try.pinned (OpenSpec.ofChange journalActsWrong)

/-- 'cobweblaw09.CellHolds': WHATEVER THE INPUT: true; the input reads as it did. -/
def cellHoldsSpec : ChangeSpec := { name := "cellHolds", fn := fun _ => fun
  | [d1, d2, d3] => { results := [.lit (.bool true)], args := [d1, d2, d3] }
  | _ => none }
def cellHoldsRow : OpenClaim := { program := "ytjhpdmiafecdnaa", sum := "bea3fcd8fe1b945be029912eb93d9b94858e6b4dfa3ef3d5269285c651092abd", func := "cobweb/cobweblaw09.CellHolds", spec := "cellHolds", inPlace := ["internal/bytealg.abigen_runtime_cmpstring"], unfollowed := true, recurses := true, plainKeys := false, apart := false }
def CellHoldsSaid : Prop := cellHoldsRow.holds Try.pinned (OpenSpec.ofChange cellHoldsSpec)

/-- ITS FALSE NEIGHBOUR: 'it returns false'. Refute it at one input. -/
def cellHoldsWrong : ChangeSpec := { name := "cellHolds", fn := fun _ => fun
  | [d1, d2, d3] => { results := [.lit (.bool false)], args := [d1, d2, d3] }
  | _ => none }
def CellHoldsWrongFalsely : Prop := cellHoldsRow.holds Try.pinned (OpenSpec.ofChange cellHoldsWrong)

/-- 'cobweblaw09.CellActs': WHATEVER THE INPUT: true; the input reads as it did. -/
def cellActsSpec : ChangeSpec := { name := "cellActs", fn := fun _ => fun
  | [d1, d2] => { results := [.lit (.bool true)], args := [d1, d2] }
  | _ => none }
def cellActsRow : OpenClaim := { program := "ytjhpdmiafecdnaa", sum := "bea3fcd8fe1b945be029912eb93d9b94858e6b4dfa3ef3d5269285c651092abd", func := "cobweb/cobweblaw09.CellActs", spec := "cellActs", inPlace := ["internal/bytealg.abigen_runtime_cmpstring"], unfollowed := true, recurses := true, plainKeys := false, apart := false }
def CellActsSaid : Prop := cellActsRow.holds Try.pinned (OpenSpec.ofChange cellActsSpec)

/-- ITS FALSE NEIGHBOUR: 'it returns false'. Refute it at one input. -/
def cellActsWrong : ChangeSpec := { name := "cellActs", fn := fun _ => fun
  | [d1, d2] => { results := [.lit (.bool false)], args := [d1, d2] }
  | _ => none }
def CellActsWrongFalsely : Prop := cellActsRow.holds Try.pinned (OpenSpec.ofChange cellActsWrong)

/-- 'cobweblaw14.RedoReplays': WHATEVER THE INPUT: true; the input reads as it did. -/
def redoReplaysSpec : ChangeSpec := { name := "redoReplays", fn := fun _ => fun
  | [d1, d2] => { results := [.lit (.bool true)], args := [d1, d2] }
  | _ => none }
def redoReplaysRow : OpenClaim := { program := "ytjhpdmiafecdnaa", sum := "bea3fcd8fe1b945be029912eb93d9b94858e6b4dfa3ef3d5269285c651092abd", func := "cobweb/cobweblaw14.RedoReplays", spec := "redoReplays", inPlace := ["internal/bytealg.abigen_runtime_cmpstring"], unfollowed := true, recurses := true, plainKeys := false, apart := false }
def RedoReplaysSaid : Prop := redoReplaysRow.holds Try.pinned (OpenSpec.ofChange redoReplaysSpec)

/-- ITS FALSE NEIGHBOUR: 'it returns false'. Refute it at one input. -/
def redoReplaysWrong : ChangeSpec := { name := "redoReplays", fn := fun _ => fun
  | [d1, d2] => { results := [.lit (.bool false)], args := [d1, d2] }
  | _ => none }
def RedoReplaysWrongFalsely : Prop := redoReplaysRow.holds Try.pinned (OpenSpec.ofChange redoReplaysWrong)

/-- 'cobweblaw20.OccAlone': WHATEVER THE INPUT: true; the input reads as it did. -/
def occAloneSpec : ChangeSpec := { name := "occAlone", fn := fun _ => fun
  | [d1, d2, d3] => { results := [.lit (.bool true)], args := [d1, d2, d3] }
  | _ => none }
def occAloneRow : OpenClaim := { program := "ytjhpdmiafecdnaa", sum := "bea3fcd8fe1b945be029912eb93d9b94858e6b4dfa3ef3d5269285c651092abd", func := "cobweb/cobweblaw20.OccAlone", spec := "occAlone", inPlace := ["internal/bytealg.abigen_runtime_cmpstring"], unfollowed := true, recurses := true, plainKeys := false, apart := false }
def OccAloneSaid : Prop := occAloneRow.holds Try.pinned (OpenSpec.ofChange occAloneSpec)

/-- ITS FALSE NEIGHBOUR: 'it returns false'. Refute it at one input. -/
def occAloneWrong : ChangeSpec := { name := "occAlone", fn := fun _ => fun
  | [d1, d2, d3] => { results := [.lit (.bool false)], args := [d1, d2, d3] }
  | _ => none }
def OccAloneWrongFalsely : Prop := occAloneRow.holds Try.pinned (OpenSpec.ofChange occAloneWrong)

/- THE SECOND FORM. 'bulk': how many values and letters a reading holds, each counted each time it is reached (what is shared counts as often as it is met; a slice's spare places count too). A statement '..UptoSaid' is the law's where the arguments, and the package variables that the reading takes, are together of bulk at most 1048576: NARROWER than '..Said'. Prove '..Said' where nothing that the law and all that it calls make is longer than what came in: it says more and counts as full. Else prove '..UptoSaid'. A law counts once. -/
mutual
def uptoBulk {H : Type} : DataW H → Nat
  | .lit (.string bytes) => bytes.length + 1
  | .lit _ => 1
  | .nil => 1
  | .ptr d => uptoBulk d + 1
  | .slice elems spare => uptoBulkAll elems + uptoBulkAll spare + 1
  | .agg parts => uptoBulkAll parts + 1
  | .iface _ d => uptoBulk d + 1
  | .map entries => uptoBulkEntries entries + 1
  | .held _ => 1
def uptoBulkAll {H : Type} : List (DataW H) → Nat
  | [] => 0
  | d :: r => uptoBulk d + uptoBulkAll r
def uptoBulkEntries {H : Type} : List (Lit × DataW H) → Nat
  | [] => 0
  | x :: r => uptoBulkEntry x + uptoBulkEntries r
def uptoBulkEntry {H : Type} : Lit × DataW H → Nat
  | (.string bytes, d) => bytes.length + uptoBulk d + 1
  | (_, d) => uptoBulk d + 1
 end
def uptoSmall : (H : Type) → List (DataW H) → Bool := fun _ ds => decide (uptoBulkAll ds ≤ 1048576)
def OpenSpec.upto (s : _root_.Go.ChangeSpec) : _root_.Go.OpenSpec := { _root_.Go.OpenSpec.ofChange s with cond := some uptoSmall }

/-- 'cobweblaw09.CellOrders', WHERE WHAT IT READS IS OF BULK AT MOST 1048576: true; the input reads as it did. -/
def cellOrdersUptoRow : OpenClaim := { program := "ytjhpdmiafecdnaa", sum := "bea3fcd8fe1b945be029912eb93d9b94858e6b4dfa3ef3d5269285c651092abd", func := "cobweb/cobweblaw09.CellOrders", spec := "cellOrders", inPlace := ["internal/bytealg.abigen_runtime_cmpstring"], plainKeys := false, apart := false, narrowed := true }
def CellOrdersUptoSaid : Prop := cellOrdersUptoRow.holds Try.pinned (OpenSpec.upto cellOrdersSpec)

/-- 'cobweblaw09.CellStays', WHERE WHAT IT READS IS OF BULK AT MOST 1048576: true; the input reads as it did. -/
def cellStaysUptoRow : OpenClaim := { program := "ytjhpdmiafecdnaa", sum := "bea3fcd8fe1b945be029912eb93d9b94858e6b4dfa3ef3d5269285c651092abd", func := "cobweb/cobweblaw09.CellStays", spec := "cellStays", plainKeys := false, apart := false, narrowed := true }
def CellStaysUptoSaid : Prop := cellStaysUptoRow.holds Try.pinned (OpenSpec.upto cellStaysSpec)

/-- 'cobweblaw14.RedoRecovers', WHERE WHAT IT READS IS OF BULK AT MOST 1048576: true; the input reads as it did. -/
def redoRecoversUptoRow : OpenClaim := { program := "ytjhpdmiafecdnaa", sum := "bea3fcd8fe1b945be029912eb93d9b94858e6b4dfa3ef3d5269285c651092abd", func := "cobweb/cobweblaw14.RedoRecovers", spec := "redoRecovers", inPlace := ["internal/bytealg.abigen_runtime_cmpstring"], unfollowed := true, recurses := true, plainKeys := false, apart := false, narrowed := true }
def RedoRecoversUptoSaid : Prop := redoRecoversUptoRow.holds Try.pinned (OpenSpec.upto redoRecoversSpec)

/-- 'cobweblaw14.RedoCuts', WHERE WHAT IT READS IS OF BULK AT MOST 1048576: true; the input reads as it did. -/
def redoCutsUptoRow : OpenClaim := { program := "ytjhpdmiafecdnaa", sum := "bea3fcd8fe1b945be029912eb93d9b94858e6b4dfa3ef3d5269285c651092abd", func := "cobweb/cobweblaw14.RedoCuts", spec := "redoCuts", inPlace := ["internal/bytealg.abigen_runtime_cmpstring"], unfollowed := true, recurses := true, plainKeys := false, apart := false, narrowed := true }
def RedoCutsUptoSaid : Prop := redoCutsUptoRow.holds Try.pinned (OpenSpec.upto redoCutsSpec)

/-- 'cobweblaw14.RedoBack', WHERE WHAT IT READS IS OF BULK AT MOST 1048576: true; the input reads as it did. -/
def redoBackUptoRow : OpenClaim := { program := "ytjhpdmiafecdnaa", sum := "bea3fcd8fe1b945be029912eb93d9b94858e6b4dfa3ef3d5269285c651092abd", func := "cobweb/cobweblaw14.RedoBack", spec := "redoBack", inPlace := ["internal/bytealg.abigen_runtime_cmpstring"], unfollowed := true, recurses := true, plainKeys := false, apart := false, narrowed := true }
def RedoBackUptoSaid : Prop := redoBackUptoRow.holds Try.pinned (OpenSpec.upto redoBackSpec)

/-- 'cobweblaw14.RedoParses', WHERE WHAT IT READS IS OF BULK AT MOST 1048576: true; the input reads as it did. -/
def redoParsesUptoRow : OpenClaim := { program := "ytjhpdmiafecdnaa", sum := "bea3fcd8fe1b945be029912eb93d9b94858e6b4dfa3ef3d5269285c651092abd", func := "cobweb/cobweblaw14.RedoParses", spec := "redoParses", inPlace := ["internal/bytealg.abigen_runtime_cmpstring"], unfollowed := true, recurses := true, plainKeys := false, apart := false, narrowed := true }
def RedoParsesUptoSaid : Prop := redoParsesUptoRow.holds Try.pinned (OpenSpec.upto redoParsesSpec)

/-- 'cobweblaw13.SetsActs', WHERE WHAT IT READS IS OF BULK AT MOST 1048576: true; the input reads as it did. -/
def setsActsUptoRow : OpenClaim := { program := "ytjhpdmiafecdnaa", sum := "bea3fcd8fe1b945be029912eb93d9b94858e6b4dfa3ef3d5269285c651092abd", func := "cobweb/cobweblaw13.SetsActs", spec := "setsActs", inPlace := ["internal/bytealg.abigen_runtime_cmpstring", "maps.clone"], unfollowed := true, recurses := true, plainKeys := false, apart := false, narrowed := true }
def SetsActsUptoSaid : Prop := setsActsUptoRow.holds Try.pinned (OpenSpec.upto setsActsSpec)

/-- 'cobweblaw13.SetsOverlay', WHERE WHAT IT READS IS OF BULK AT MOST 1048576: true; the input reads as it did. -/
def setsOverlayUptoRow : OpenClaim := { program := "ytjhpdmiafecdnaa", sum := "bea3fcd8fe1b945be029912eb93d9b94858e6b4dfa3ef3d5269285c651092abd", func := "cobweb/cobweblaw13.SetsOverlay", spec := "setsOverlay", inPlace := ["internal/bytealg.abigen_runtime_cmpstring", "maps.clone"], unfollowed := true, recurses := true, plainKeys := false, apart := false, narrowed := true }
def SetsOverlayUptoSaid : Prop := setsOverlayUptoRow.holds Try.pinned (OpenSpec.upto setsOverlaySpec)

/-- 'cobweblaw13.SetsBack', WHERE WHAT IT READS IS OF BULK AT MOST 1048576: true; the input reads as it did. -/
def setsBackUptoRow : OpenClaim := { program := "ytjhpdmiafecdnaa", sum := "bea3fcd8fe1b945be029912eb93d9b94858e6b4dfa3ef3d5269285c651092abd", func := "cobweb/cobweblaw13.SetsBack", spec := "setsBack", inPlace := ["internal/bytealg.abigen_runtime_cmpstring", "maps.clone"], unfollowed := true, recurses := true, plainKeys := false, apart := false, narrowed := true }
def SetsBackUptoSaid : Prop := setsBackUptoRow.holds Try.pinned (OpenSpec.upto setsBackSpec)

/-- 'cobweblaw15.JournalRooms', WHERE WHAT IT READS IS OF BULK AT MOST 1048576: true; the input reads as it did. -/
def journalRoomsUptoRow : OpenClaim := { program := "ytjhpdmiafecdnaa", sum := "bea3fcd8fe1b945be029912eb93d9b94858e6b4dfa3ef3d5269285c651092abd", func := "cobweb/cobweblaw15.JournalRooms", spec := "journalRooms", inPlace := ["internal/bytealg.abigen_runtime_cmpstring"], unfollowed := true, recurses := true, plainKeys := false, apart := false, narrowed := true }
def JournalRoomsUptoSaid : Prop := journalRoomsUptoRow.holds Try.pinned (OpenSpec.upto journalRoomsSpec)

/-- 'cobweblaw15.JournalKeeps', WHERE WHAT IT READS IS OF BULK AT MOST 1048576: true; the input reads as it did. -/
def journalKeepsUptoRow : OpenClaim := { program := "ytjhpdmiafecdnaa", sum := "bea3fcd8fe1b945be029912eb93d9b94858e6b4dfa3ef3d5269285c651092abd", func := "cobweb/cobweblaw15.JournalKeeps", spec := "journalKeeps", inPlace := ["internal/bytealg.abigen_runtime_cmpstring"], unfollowed := true, recurses := true, plainKeys := false, apart := false, narrowed := true }
def JournalKeepsUptoSaid : Prop := journalKeepsUptoRow.holds Try.pinned (OpenSpec.upto journalKeepsSpec)

/-- 'cobweblaw15.JournalAgain', WHERE WHAT IT READS IS OF BULK AT MOST 1048576: true; the input reads as it did. -/
def journalAgainUptoRow : OpenClaim := { program := "ytjhpdmiafecdnaa", sum := "bea3fcd8fe1b945be029912eb93d9b94858e6b4dfa3ef3d5269285c651092abd", func := "cobweb/cobweblaw15.JournalAgain", spec := "journalAgain", inPlace := ["internal/bytealg.abigen_runtime_cmpstring"], unfollowed := true, recurses := true, plainKeys := false, apart := false, narrowed := true }
def JournalAgainUptoSaid : Prop := journalAgainUptoRow.holds Try.pinned (OpenSpec.upto journalAgainSpec)

/-- 'cobweblaw09.CellRooms', WHERE WHAT IT READS IS OF BULK AT MOST 1048576: true; the input reads as it did. -/
def cellRoomsUptoRow : OpenClaim := { program := "ytjhpdmiafecdnaa", sum := "bea3fcd8fe1b945be029912eb93d9b94858e6b4dfa3ef3d5269285c651092abd", func := "cobweb/cobweblaw09.CellRooms", spec := "cellRooms", inPlace := ["internal/bytealg.abigen_runtime_cmpstring"], unfollowed := true, recurses := true, plainKeys := false, apart := false, narrowed := true }
def CellRoomsUptoSaid : Prop := cellRoomsUptoRow.holds Try.pinned (OpenSpec.upto cellRoomsSpec)

/-- 'cobweblaw15.JournalActs', WHERE WHAT IT READS IS OF BULK AT MOST 1048576: true; the input reads as it did. -/
def journalActsUptoRow : OpenClaim := { program := "ytjhpdmiafecdnaa", sum := "bea3fcd8fe1b945be029912eb93d9b94858e6b4dfa3ef3d5269285c651092abd", func := "cobweb/cobweblaw15.JournalActs", spec := "journalActs", inPlace := ["internal/bytealg.abigen_runtime_cmpstring"], unfollowed := true, recurses := true, plainKeys := false, apart := false, narrowed := true }
def JournalActsUptoSaid : Prop := journalActsUptoRow.holds Try.pinned (OpenSpec.upto journalActsSpec)

/-- 'cobweblaw09.CellHolds', WHERE WHAT IT READS IS OF BULK AT MOST 1048576: true; the input reads as it did. -/
def cellHoldsUptoRow : OpenClaim := { program := "ytjhpdmiafecdnaa", sum := "bea3fcd8fe1b945be029912eb93d9b94858e6b4dfa3ef3d5269285c651092abd", func := "cobweb/cobweblaw09.CellHolds", spec := "cellHolds", inPlace := ["internal/bytealg.abigen_runtime_cmpstring"], unfollowed := true, recurses := true, plainKeys := false, apart := false, narrowed := true }
def CellHoldsUptoSaid : Prop := cellHoldsUptoRow.holds Try.pinned (OpenSpec.upto cellHoldsSpec)

/-- 'cobweblaw09.CellActs', WHERE WHAT IT READS IS OF BULK AT MOST 1048576: true; the input reads as it did. -/
def cellActsUptoRow : OpenClaim := { program := "ytjhpdmiafecdnaa", sum := "bea3fcd8fe1b945be029912eb93d9b94858e6b4dfa3ef3d5269285c651092abd", func := "cobweb/cobweblaw09.CellActs", spec := "cellActs", inPlace := ["internal/bytealg.abigen_runtime_cmpstring"], unfollowed := true, recurses := true, plainKeys := false, apart := false, narrowed := true }
def CellActsUptoSaid : Prop := cellActsUptoRow.holds Try.pinned (OpenSpec.upto cellActsSpec)

/-- 'cobweblaw14.RedoReplays', WHERE WHAT IT READS IS OF BULK AT MOST 1048576: true; the input reads as it did. -/
def redoReplaysUptoRow : OpenClaim := { program := "ytjhpdmiafecdnaa", sum := "bea3fcd8fe1b945be029912eb93d9b94858e6b4dfa3ef3d5269285c651092abd", func := "cobweb/cobweblaw14.RedoReplays", spec := "redoReplays", inPlace := ["internal/bytealg.abigen_runtime_cmpstring"], unfollowed := true, recurses := true, plainKeys := false, apart := false, narrowed := true }
def RedoReplaysUptoSaid : Prop := redoReplaysUptoRow.holds Try.pinned (OpenSpec.upto redoReplaysSpec)

/-- 'cobweblaw20.OccAlone', WHERE WHAT IT READS IS OF BULK AT MOST 1048576: true; the input reads as it did. -/
def occAloneUptoRow : OpenClaim := { program := "ytjhpdmiafecdnaa", sum := "bea3fcd8fe1b945be029912eb93d9b94858e6b4dfa3ef3d5269285c651092abd", func := "cobweb/cobweblaw20.OccAlone", spec := "occAlone", inPlace := ["internal/bytealg.abigen_runtime_cmpstring"], unfollowed := true, recurses := true, plainKeys := false, apart := false, narrowed := true }
def OccAloneUptoSaid : Prop := occAloneUptoRow.holds Try.pinned (OpenSpec.upto occAloneSpec)

end Rows
end Go.Proofs.Ytjhpdmiafecdnaa
