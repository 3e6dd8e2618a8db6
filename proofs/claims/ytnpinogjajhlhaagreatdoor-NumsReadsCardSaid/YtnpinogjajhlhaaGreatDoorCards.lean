/-
  DERIVED. GIVEN WITH THE SEED: THE CARDS: each row of YtnpinogjajhlhaaGreatDoorRows.lean that lists a variable, with what it lists TIED to the program's text (the seventh form; the later family's looks); each row that meets fmt, with fmt's text TOLD by the authors' own Lean function (tested against real Go, not proved from fmt's source: count such statements apart). THE CARD IS WHAT COUNTS. Prove the row's statement (the work); the ties are given (YtnpinogjajhlhaaGreatDoorTie.lean); close each card by the builder's one call (the guide's Derived/Test/ToyasCard.lean, 'card_holds'). Laid BY PROGRAM, IN A SANDBOX (cutbox-door.mjs). By AI agents, Wed Nov 11 2026. No macro, syntax, notation, axiom, sorry.
-/
import Derived.Test.YtnpinogjajhlhaaGreatDoorRows
import GoSem.ClaimSeven
namespace Go.Proofs.YtnpinogjajhlhaaGreatDoor
namespace Rows

/-- THE TIED CARD OF 'lexiconlaw03.NumsReads'. -/
def numsReadsCard : Claim7 := { stood := { row := numsReadsRow, standIns := [], harness := (true, "9fa1ff7202c9f5a933af4c9ae96e929b8fbddb638f2da12b84a680d5050821ad"), looks := true }, kinds := [], alts := [], laidByText := true, laidKinds := [.data, .data, .widerDeep, .widerDeep, .data, .data, .data, .data, .data, .data, .sentinel, .sentinel, .pinned, .pinned, .pinned], laidTests := true, laidLooks := .later }
def NumsReadsCardSaid : Prop := Claim7.holds Tryz.pinned (.plain (OpenSpec.ofChange numsReadsSpec)) numsReadsCard

/-- THE SECOND FORM's CARD OF 'lexiconlaw03.NumsReads'. -/
def numsReadsUptoCard : Claim7 := { stood := { row := numsReadsUptoRow, standIns := [], harness := (true, "9fa1ff7202c9f5a933af4c9ae96e929b8fbddb638f2da12b84a680d5050821ad"), looks := true }, kinds := [], alts := [], laidByText := true, laidKinds := [.data, .data, .widerDeep, .widerDeep, .data, .data, .data, .data, .data, .data, .sentinel, .sentinel, .pinned, .pinned, .pinned], laidTests := true, laidLooks := .later }
def NumsReadsUptoCardSaid : Prop := Claim7.holds Tryz.pinned (.plain (OpenSpec.upto numsReadsSpec)) numsReadsUptoCard
end Rows
end Go.Proofs.YtnpinogjajhlhaaGreatDoor
