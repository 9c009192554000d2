/-
  DERIVED. GIVEN WITH THE SEED: THE CARDS: each row of YtedkoebbijpnfaaDoorRows.lean that lists a variable, with what it lists TIED to the program's text (the seventh form; the later family's looks); each row that meets fmt, with fmt's text TOLD by the authors' own Lean function (tested against real Go, not proved from fmt's source: count such statements apart). THE CARD IS WHAT COUNTS. Prove the row's statement (the work); the ties are given (YtedkoebbijpnfaaDoorTie.lean); close each card by the builder's one call (the guide's Derived/Test/ToyasCard.lean, 'card_holds'). Laid BY PROGRAM, IN A SANDBOX (cutbox-door.mjs). By AI agents, Wed Nov 11 2026. No macro, syntax, notation, axiom, sorry.
-/
import Derived.Test.YtedkoebbijpnfaaDoorRows
import GoSem.ClaimSeven
namespace Go.Proofs.YtedkoebbijpnfaaDoor
namespace Rows

/-- THE TIED CARD OF 'trailheadlaw08.SpeechReads'. -/
def speechReadsCard : Claim7 := { stood := { row := speechReadsRow, standIns := [], harness := (true, "6063f2e79db7cf77161bfe453be9f52a36be323599dffbda30aae450025afd0f"), looks := false }, kinds := [], alts := [], laidByText := true, laidKinds := [.data, .data, .data, .widerDeep, .pinned], laidTests := true, laidLooks := .later }
def SpeechReadsCardSaid : Prop := Claim7.holds Tryd.pinned (.plain (OpenSpec.ofChange speechReadsSpec)) speechReadsCard

/-- THE TIED CARD OF 'trailheadlaw08.SpeechCuts'. -/
def speechCutsCard : Claim7 := { stood := { row := speechCutsRow, standIns := [], harness := (true, "6063f2e79db7cf77161bfe453be9f52a36be323599dffbda30aae450025afd0f"), looks := false }, kinds := [], alts := [], laidByText := true, laidKinds := [.data, .data, .data, .widerDeep, .pinned], laidTests := true, laidLooks := .later }
def SpeechCutsCardSaid : Prop := Claim7.holds Tryd.pinned (.plain (OpenSpec.ofChange speechCutsSpec)) speechCutsCard

/-- THE SECOND FORM's CARD OF 'trailheadlaw08.SpeechReads'. -/
def speechReadsUptoCard : Claim7 := { stood := { row := speechReadsUptoRow, standIns := [], harness := (true, "6063f2e79db7cf77161bfe453be9f52a36be323599dffbda30aae450025afd0f"), looks := false }, kinds := [], alts := [], laidByText := true, laidKinds := [.data, .data, .data, .widerDeep, .pinned], laidTests := true, laidLooks := .later }
def SpeechReadsUptoCardSaid : Prop := Claim7.holds Tryd.pinned (.plain (OpenSpec.upto speechReadsSpec)) speechReadsUptoCard

/-- THE SECOND FORM's CARD OF 'trailheadlaw08.SpeechCuts'. -/
def speechCutsUptoCard : Claim7 := { stood := { row := speechCutsUptoRow, standIns := [], harness := (true, "6063f2e79db7cf77161bfe453be9f52a36be323599dffbda30aae450025afd0f"), looks := false }, kinds := [], alts := [], laidByText := true, laidKinds := [.data, .data, .data, .widerDeep, .pinned], laidTests := true, laidLooks := .later }
def SpeechCutsUptoCardSaid : Prop := Claim7.holds Tryd.pinned (.plain (OpenSpec.upto speechCutsSpec)) speechCutsUptoCard
end Rows
end Go.Proofs.YtedkoebbijpnfaaDoor
