/-
  DERIVED. GIVEN WITH THE SEED: THE CARDS: each row of YtamodllgeabpoaaDoorRows.lean that lists a variable, with what it lists TIED to the program's text (the seventh form; the later family's looks); each row that meets fmt, with fmt's text TOLD by the authors' own Lean function (tested against real Go, not proved from fmt's source: count such statements apart). THE CARD IS WHAT COUNTS. Prove the row's statement (the work); the ties are given (YtamodllgeabpoaaDoorTie.lean); close each card by the builder's one call (the guide's Derived/Test/ToyasCard.lean, 'card_holds'). Laid BY PROGRAM, IN A SANDBOX (cutbox-door.mjs). By AI agents, Wed Nov 11 2026. No macro, syntax, notation, axiom, sorry.
-/
import Derived.Test.YtamodllgeabpoaaDoorRows
import GoSem.ClaimSeven
namespace Go.Proofs.YtamodllgeabpoaaDoor
namespace Rows

/-- THE TIED CARD OF 'annalslaw8.ManifestChecks'. -/
def manifestChecksCard : Claim7 := { stood := { row := manifestChecksRow, standIns := [], harness := (true, "a334c4a0a4f6584bfaea07d8c060743ab306fa06656250e665bf6f726ad6e493"), looks := true }, kinds := [], alts := [], laidByText := true, laidKinds := [.data], laidTests := true, laidLooks := .later }
def ManifestChecksCardSaid : Prop := Claim7.holds Tryd.pinned (.plain (OpenSpec.ofChange manifestChecksSpec)) manifestChecksCard

/-- THE TIED CARD OF 'annalslaw8.ManifestReads'. -/
def manifestReadsCard : Claim7 := { stood := { row := manifestReadsRow, standIns := [], harness := (true, "a334c4a0a4f6584bfaea07d8c060743ab306fa06656250e665bf6f726ad6e493"), looks := true }, kinds := [], alts := [], laidByText := true, laidKinds := [.data], laidTests := true, laidLooks := .later }
def ManifestReadsCardSaid : Prop := Claim7.holds Tryd.pinned (.plain (OpenSpec.ofChange manifestReadsSpec)) manifestReadsCard

/-- THE TIED CARD OF 'annalslaw8.ManifestOne'. -/
def manifestOneCard : Claim7 := { stood := { row := manifestOneRow, standIns := [], harness := (true, "a334c4a0a4f6584bfaea07d8c060743ab306fa06656250e665bf6f726ad6e493"), looks := true }, kinds := [], alts := [], laidByText := true, laidKinds := [.data], laidTests := true, laidLooks := .later }
def ManifestOneCardSaid : Prop := Claim7.holds Tryd.pinned (.plain (OpenSpec.ofChange manifestOneSpec)) manifestOneCard

/-- THE TIED CARD OF 'annalslaw8.ManifestLent'. -/
def manifestLentCard : Claim7 := { stood := { row := manifestLentRow, standIns := [], harness := (true, "a334c4a0a4f6584bfaea07d8c060743ab306fa06656250e665bf6f726ad6e493"), looks := true }, kinds := [], alts := [], laidByText := true, laidKinds := [.data], laidTests := true, laidLooks := .later }
def ManifestLentCardSaid : Prop := Claim7.holds Tryd.pinned (.plain (OpenSpec.ofChange manifestLentSpec)) manifestLentCard

/-- THE TIED CARD OF 'annalslaw8.ManifestAgain'. -/
def manifestAgainCard : Claim7 := { stood := { row := manifestAgainRow, standIns := [], harness := (true, "a334c4a0a4f6584bfaea07d8c060743ab306fa06656250e665bf6f726ad6e493"), looks := true }, kinds := [], alts := [], laidByText := true, laidKinds := [.data], laidTests := true, laidLooks := .later }
def ManifestAgainCardSaid : Prop := Claim7.holds Tryd.pinned (.plain (OpenSpec.ofChange manifestAgainSpec)) manifestAgainCard

/-- THE TIED CARD OF 'annalslaw8.ManifestStroke'. -/
def manifestStrokeCard : Claim7 := { stood := { row := manifestStrokeRow, standIns := [], harness := (true, "a334c4a0a4f6584bfaea07d8c060743ab306fa06656250e665bf6f726ad6e493"), looks := true }, kinds := [], alts := [], laidByText := true, laidKinds := [.data], laidTests := true, laidLooks := .later }
def ManifestStrokeCardSaid : Prop := Claim7.holds Tryd.pinned (.plain (OpenSpec.ofChange manifestStrokeSpec)) manifestStrokeCard

/-- THE SECOND FORM's CARD OF 'annalslaw8.ManifestChecks'. -/
def manifestChecksUptoCard : Claim7 := { stood := { row := manifestChecksUptoRow, standIns := [], harness := (true, "a334c4a0a4f6584bfaea07d8c060743ab306fa06656250e665bf6f726ad6e493"), looks := true }, kinds := [], alts := [], laidByText := true, laidKinds := [.data], laidTests := true, laidLooks := .later }
def ManifestChecksUptoCardSaid : Prop := Claim7.holds Tryd.pinned (.plain (OpenSpec.upto manifestChecksSpec)) manifestChecksUptoCard

/-- THE SECOND FORM's CARD OF 'annalslaw8.ManifestReads'. -/
def manifestReadsUptoCard : Claim7 := { stood := { row := manifestReadsUptoRow, standIns := [], harness := (true, "a334c4a0a4f6584bfaea07d8c060743ab306fa06656250e665bf6f726ad6e493"), looks := true }, kinds := [], alts := [], laidByText := true, laidKinds := [.data], laidTests := true, laidLooks := .later }
def ManifestReadsUptoCardSaid : Prop := Claim7.holds Tryd.pinned (.plain (OpenSpec.upto manifestReadsSpec)) manifestReadsUptoCard

/-- THE SECOND FORM's CARD OF 'annalslaw8.ManifestOne'. -/
def manifestOneUptoCard : Claim7 := { stood := { row := manifestOneUptoRow, standIns := [], harness := (true, "a334c4a0a4f6584bfaea07d8c060743ab306fa06656250e665bf6f726ad6e493"), looks := true }, kinds := [], alts := [], laidByText := true, laidKinds := [.data], laidTests := true, laidLooks := .later }
def ManifestOneUptoCardSaid : Prop := Claim7.holds Tryd.pinned (.plain (OpenSpec.upto manifestOneSpec)) manifestOneUptoCard

/-- THE SECOND FORM's CARD OF 'annalslaw8.ManifestLent'. -/
def manifestLentUptoCard : Claim7 := { stood := { row := manifestLentUptoRow, standIns := [], harness := (true, "a334c4a0a4f6584bfaea07d8c060743ab306fa06656250e665bf6f726ad6e493"), looks := true }, kinds := [], alts := [], laidByText := true, laidKinds := [.data], laidTests := true, laidLooks := .later }
def ManifestLentUptoCardSaid : Prop := Claim7.holds Tryd.pinned (.plain (OpenSpec.upto manifestLentSpec)) manifestLentUptoCard

/-- THE SECOND FORM's CARD OF 'annalslaw8.ManifestAgain'. -/
def manifestAgainUptoCard : Claim7 := { stood := { row := manifestAgainUptoRow, standIns := [], harness := (true, "a334c4a0a4f6584bfaea07d8c060743ab306fa06656250e665bf6f726ad6e493"), looks := true }, kinds := [], alts := [], laidByText := true, laidKinds := [.data], laidTests := true, laidLooks := .later }
def ManifestAgainUptoCardSaid : Prop := Claim7.holds Tryd.pinned (.plain (OpenSpec.upto manifestAgainSpec)) manifestAgainUptoCard

/-- THE SECOND FORM's CARD OF 'annalslaw8.ManifestStroke'. -/
def manifestStrokeUptoCard : Claim7 := { stood := { row := manifestStrokeUptoRow, standIns := [], harness := (true, "a334c4a0a4f6584bfaea07d8c060743ab306fa06656250e665bf6f726ad6e493"), looks := true }, kinds := [], alts := [], laidByText := true, laidKinds := [.data], laidTests := true, laidLooks := .later }
def ManifestStrokeUptoCardSaid : Prop := Claim7.holds Tryd.pinned (.plain (OpenSpec.upto manifestStrokeSpec)) manifestStrokeUptoCard
end Rows
end Go.Proofs.YtamodllgeabpoaaDoor
