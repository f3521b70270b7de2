/-
  DERIVED. GIVEN WITH THE SEED: THE CARDS: each row of YtjmdkhjfjlodmaaDoorRows.lean that lists a variable, with what it lists TIED to the program's text (the seventh form; the later family's looks); each row that meets fmt, with fmt's text TOLD by the authors' own Lean function (tested against real Go, not proved from fmt's source: count such statements apart). THE CARD IS WHAT COUNTS. Prove the row's statement (the work); the ties are given (YtjmdkhjfjlodmaaDoorTie.lean); close each card by the builder's one call (the guide's Derived/Test/ToyasCard.lean, 'card_holds'). Laid BY PROGRAM, IN A SANDBOX (cutbox-door.mjs). By AI agents, Wed Nov 11 2026. No macro, syntax, notation, axiom, sorry.
-/
import Derived.Test.YtjmdkhjfjlodmaaDoorRows
import GoSem.ClaimSeven
namespace Go.Proofs.YtjmdkhjfjlodmaaDoor
namespace Rows

/-- THE TIED CARD OF 'fuglemanlaw03.EpochFresh'. -/
def epochFreshCard : Claim7 := { stood := { row := epochFreshRow, standIns := [], harness := (true, "756a4ee51d98782798497cc6ea61a488cd780d4109de62f429148d66fe92ecc7"), looks := true }, kinds := [], alts := [], laidByText := true, laidKinds := [.data, .data, .data, .data, .sentinel, .sentinel, .pinned], laidTests := true, laidLooks := .later }
def EpochFreshCardSaid : Prop := Claim7.holds Tryd.pinned (.plain (OpenSpec.ofChange epochFreshSpec)) epochFreshCard

/-- THE TIED CARD OF 'fuglemanlaw03.EpochReads'. -/
def epochReadsCard : Claim7 := { stood := { row := epochReadsRow, standIns := [], harness := (true, "756a4ee51d98782798497cc6ea61a488cd780d4109de62f429148d66fe92ecc7"), looks := true }, kinds := [], alts := [], laidByText := true, laidKinds := [.data, .data, .data, .data, .sentinel, .sentinel, .pinned], laidTests := true, laidLooks := .later }
def EpochReadsCardSaid : Prop := Claim7.holds Tryd.pinned (.plain (OpenSpec.ofChange epochReadsSpec)) epochReadsCard

/-- THE TIED CARD OF 'fuglemanlaw03.EpochMints'. -/
def epochMintsCard : Claim7 := { stood := { row := epochMintsRow, standIns := [], harness := (true, "756a4ee51d98782798497cc6ea61a488cd780d4109de62f429148d66fe92ecc7"), looks := true }, kinds := [], alts := [], laidByText := true, laidKinds := [.data, .data, .data, .data, .sentinel, .sentinel, .pinned], laidTests := true, laidLooks := .later }
def EpochMintsCardSaid : Prop := Claim7.holds Tryd.pinned (.plain (OpenSpec.ofChange epochMintsSpec)) epochMintsCard

/-- THE TIED CARD OF 'fuglemanlaw03.EpochOrders'. -/
def epochOrdersCard : Claim7 := { stood := { row := epochOrdersRow, standIns := [], harness := (true, "756a4ee51d98782798497cc6ea61a488cd780d4109de62f429148d66fe92ecc7"), looks := true }, kinds := [], alts := [], laidByText := true, laidKinds := [.data, .data, .data, .data, .sentinel, .sentinel, .pinned], laidTests := true, laidLooks := .later }
def EpochOrdersCardSaid : Prop := Claim7.holds Tryd.pinned (.plain (OpenSpec.ofChange epochOrdersSpec)) epochOrdersCard

/-- THE SECOND FORM's CARD OF 'fuglemanlaw03.EpochFresh'. -/
def epochFreshUptoCard : Claim7 := { stood := { row := epochFreshUptoRow, standIns := [], harness := (true, "756a4ee51d98782798497cc6ea61a488cd780d4109de62f429148d66fe92ecc7"), looks := true }, kinds := [], alts := [], laidByText := true, laidKinds := [.data, .data, .data, .data, .sentinel, .sentinel, .pinned], laidTests := true, laidLooks := .later }
def EpochFreshUptoCardSaid : Prop := Claim7.holds Tryd.pinned (.plain (OpenSpec.upto epochFreshSpec)) epochFreshUptoCard

/-- THE SECOND FORM's CARD OF 'fuglemanlaw03.EpochReads'. -/
def epochReadsUptoCard : Claim7 := { stood := { row := epochReadsUptoRow, standIns := [], harness := (true, "756a4ee51d98782798497cc6ea61a488cd780d4109de62f429148d66fe92ecc7"), looks := true }, kinds := [], alts := [], laidByText := true, laidKinds := [.data, .data, .data, .data, .sentinel, .sentinel, .pinned], laidTests := true, laidLooks := .later }
def EpochReadsUptoCardSaid : Prop := Claim7.holds Tryd.pinned (.plain (OpenSpec.upto epochReadsSpec)) epochReadsUptoCard

/-- THE SECOND FORM's CARD OF 'fuglemanlaw03.EpochMints'. -/
def epochMintsUptoCard : Claim7 := { stood := { row := epochMintsUptoRow, standIns := [], harness := (true, "756a4ee51d98782798497cc6ea61a488cd780d4109de62f429148d66fe92ecc7"), looks := true }, kinds := [], alts := [], laidByText := true, laidKinds := [.data, .data, .data, .data, .sentinel, .sentinel, .pinned], laidTests := true, laidLooks := .later }
def EpochMintsUptoCardSaid : Prop := Claim7.holds Tryd.pinned (.plain (OpenSpec.upto epochMintsSpec)) epochMintsUptoCard

/-- THE SECOND FORM's CARD OF 'fuglemanlaw03.EpochOrders'. -/
def epochOrdersUptoCard : Claim7 := { stood := { row := epochOrdersUptoRow, standIns := [], harness := (true, "756a4ee51d98782798497cc6ea61a488cd780d4109de62f429148d66fe92ecc7"), looks := true }, kinds := [], alts := [], laidByText := true, laidKinds := [.data, .data, .data, .data, .sentinel, .sentinel, .pinned], laidTests := true, laidLooks := .later }
def EpochOrdersUptoCardSaid : Prop := Claim7.holds Tryd.pinned (.plain (OpenSpec.upto epochOrdersSpec)) epochOrdersUptoCard
end Rows
end Go.Proofs.YtjmdkhjfjlodmaaDoor
