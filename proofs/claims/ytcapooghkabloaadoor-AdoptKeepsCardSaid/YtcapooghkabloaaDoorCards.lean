/-
  DERIVED. GIVEN WITH THE SEED: THE CARDS: each row of YtcapooghkabloaaDoorRows.lean that lists a variable, with what it lists TIED to the program's text (the seventh form; the later family's looks); each row that meets fmt, with fmt's text TOLD by the authors' own Lean function (tested against real Go, not proved from fmt's source: count such statements apart). THE CARD IS WHAT COUNTS. Prove the row's statement (the work); the ties are given (YtcapooghkabloaaDoorTie.lean); close each card by the builder's one call (the guide's Derived/Test/ToyasCard.lean, 'card_holds'). Laid BY PROGRAM, IN A SANDBOX (cutbox-door.mjs). By AI agents, Wed Nov 11 2026. No macro, syntax, notation, axiom, sorry.
-/
import Derived.Test.YtcapooghkabloaaDoorRows
import GoSem.ClaimSeven
namespace Go.Proofs.YtcapooghkabloaaDoor
namespace Rows

/-- THE TIED CARD OF 'decanterlaw13.StackFar'. -/
def stackFarCard : Claim7 := { stood := { row := stackFarRow, standIns := [], harness := (true, "c3b0e9dc9c92d4f0fa62ba35363ad4cf98a1fccb638a168805a64b474da8cd64"), looks := false }, kinds := [], alts := [], laidByText := true, laidKinds := [.data, .listed, .data, .pinned], laidTests := true, laidLooks := .later }
def StackFarCardSaid : Prop := Claim7.holds Tryd.pinned (.plain (OpenSpec.ofChange stackFarSpec)) stackFarCard

/-- THE TIED CARD OF 'decanterlaw13.StackImplied'. -/
def stackImpliedCard : Claim7 := { stood := { row := stackImpliedRow, standIns := [], harness := (true, "c3b0e9dc9c92d4f0fa62ba35363ad4cf98a1fccb638a168805a64b474da8cd64"), looks := false }, kinds := [], alts := [], laidByText := true, laidKinds := [.data, .listed, .data, .pinned], laidTests := true, laidLooks := .later }
def StackImpliedCardSaid : Prop := Claim7.holds Tryd.pinned (.plain (OpenSpec.ofChange stackImpliedSpec)) stackImpliedCard

/-- THE TIED CARD OF 'decanterlaw13.StackLooks'. -/
def stackLooksCard : Claim7 := { stood := { row := stackLooksRow, standIns := [], harness := (true, "c3b0e9dc9c92d4f0fa62ba35363ad4cf98a1fccb638a168805a64b474da8cd64"), looks := false }, kinds := [], alts := [], laidByText := true, laidKinds := [.data, .listed, .data, .pinned], laidTests := true, laidLooks := .later }
def StackLooksCardSaid : Prop := Claim7.holds Tryd.pinned (.plain (OpenSpec.ofChange stackLooksSpec)) stackLooksCard

/-- THE TIED CARD OF 'decanterlaw13.StackTurns'. -/
def stackTurnsCard : Claim7 := { stood := { row := stackTurnsRow, standIns := [], harness := (true, "c3b0e9dc9c92d4f0fa62ba35363ad4cf98a1fccb638a168805a64b474da8cd64"), looks := false }, kinds := [], alts := [], laidByText := true, laidKinds := [.data, .listed, .data, .pinned], laidTests := true, laidLooks := .later }
def StackTurnsCardSaid : Prop := Claim7.holds Tryd.pinned (.plain (OpenSpec.ofChange stackTurnsSpec)) stackTurnsCard

/-- THE TIED CARD OF 'decanterlaw13.StackActs'. -/
def stackActsCard : Claim7 := { stood := { row := stackActsRow, standIns := [], harness := (true, "c3b0e9dc9c92d4f0fa62ba35363ad4cf98a1fccb638a168805a64b474da8cd64"), looks := false }, kinds := [], alts := [], laidByText := true, laidKinds := [.data, .listed, .data, .pinned], laidTests := true, laidLooks := .later }
def StackActsCardSaid : Prop := Claim7.holds Tryd.pinned (.plain (OpenSpec.ofChange stackActsSpec)) stackActsCard

/-- THE TIED CARD OF 'decanterlaw15.AdoptKeeps'. -/
def adoptKeepsCard : Claim7 := { stood := { row := adoptKeepsRow, standIns := [], harness := (true, "c3b0e9dc9c92d4f0fa62ba35363ad4cf98a1fccb638a168805a64b474da8cd64"), looks := false }, kinds := [], alts := [], laidByText := true, laidKinds := [.data, .listed, .data, .pinned], laidTests := true, laidLooks := .later }
def AdoptKeepsCardSaid : Prop := Claim7.holds Tryd.pinned (.plain (OpenSpec.ofChange adoptKeepsSpec)) adoptKeepsCard

/-- THE TIED CARD OF 'decanterlaw15.AdoptPlain'. -/
def adoptPlainCard : Claim7 := { stood := { row := adoptPlainRow, standIns := [], harness := (true, "c3b0e9dc9c92d4f0fa62ba35363ad4cf98a1fccb638a168805a64b474da8cd64"), looks := false }, kinds := [], alts := [], laidByText := true, laidKinds := [.data, .listed, .data, .pinned], laidTests := true, laidLooks := .later }
def AdoptPlainCardSaid : Prop := Claim7.holds Tryd.pinned (.plain (OpenSpec.ofChange adoptPlainSpec)) adoptPlainCard

/-- THE TIED CARD OF 'decanterlaw15.AdoptBlock'. -/
def adoptBlockCard : Claim7 := { stood := { row := adoptBlockRow, standIns := [], harness := (true, "c3b0e9dc9c92d4f0fa62ba35363ad4cf98a1fccb638a168805a64b474da8cd64"), looks := false }, kinds := [], alts := [], laidByText := true, laidKinds := [.data, .listed, .data, .pinned], laidTests := true, laidLooks := .later }
def AdoptBlockCardSaid : Prop := Claim7.holds Tryd.pinned (.plain (OpenSpec.ofChange adoptBlockSpec)) adoptBlockCard

/-- THE SECOND FORM's CARD OF 'decanterlaw13.StackFar'. -/
def stackFarUptoCard : Claim7 := { stood := { row := stackFarUptoRow, standIns := [], harness := (true, "c3b0e9dc9c92d4f0fa62ba35363ad4cf98a1fccb638a168805a64b474da8cd64"), looks := false }, kinds := [], alts := [], laidByText := true, laidKinds := [.data, .listed, .data, .pinned], laidTests := true, laidLooks := .later }
def StackFarUptoCardSaid : Prop := Claim7.holds Tryd.pinned (.plain (OpenSpec.upto stackFarSpec)) stackFarUptoCard

/-- THE SECOND FORM's CARD OF 'decanterlaw13.StackImplied'. -/
def stackImpliedUptoCard : Claim7 := { stood := { row := stackImpliedUptoRow, standIns := [], harness := (true, "c3b0e9dc9c92d4f0fa62ba35363ad4cf98a1fccb638a168805a64b474da8cd64"), looks := false }, kinds := [], alts := [], laidByText := true, laidKinds := [.data, .listed, .data, .pinned], laidTests := true, laidLooks := .later }
def StackImpliedUptoCardSaid : Prop := Claim7.holds Tryd.pinned (.plain (OpenSpec.upto stackImpliedSpec)) stackImpliedUptoCard

/-- THE SECOND FORM's CARD OF 'decanterlaw13.StackLooks'. -/
def stackLooksUptoCard : Claim7 := { stood := { row := stackLooksUptoRow, standIns := [], harness := (true, "c3b0e9dc9c92d4f0fa62ba35363ad4cf98a1fccb638a168805a64b474da8cd64"), looks := false }, kinds := [], alts := [], laidByText := true, laidKinds := [.data, .listed, .data, .pinned], laidTests := true, laidLooks := .later }
def StackLooksUptoCardSaid : Prop := Claim7.holds Tryd.pinned (.plain (OpenSpec.upto stackLooksSpec)) stackLooksUptoCard

/-- THE SECOND FORM's CARD OF 'decanterlaw13.StackTurns'. -/
def stackTurnsUptoCard : Claim7 := { stood := { row := stackTurnsUptoRow, standIns := [], harness := (true, "c3b0e9dc9c92d4f0fa62ba35363ad4cf98a1fccb638a168805a64b474da8cd64"), looks := false }, kinds := [], alts := [], laidByText := true, laidKinds := [.data, .listed, .data, .pinned], laidTests := true, laidLooks := .later }
def StackTurnsUptoCardSaid : Prop := Claim7.holds Tryd.pinned (.plain (OpenSpec.upto stackTurnsSpec)) stackTurnsUptoCard

/-- THE SECOND FORM's CARD OF 'decanterlaw13.StackActs'. -/
def stackActsUptoCard : Claim7 := { stood := { row := stackActsUptoRow, standIns := [], harness := (true, "c3b0e9dc9c92d4f0fa62ba35363ad4cf98a1fccb638a168805a64b474da8cd64"), looks := false }, kinds := [], alts := [], laidByText := true, laidKinds := [.data, .listed, .data, .pinned], laidTests := true, laidLooks := .later }
def StackActsUptoCardSaid : Prop := Claim7.holds Tryd.pinned (.plain (OpenSpec.upto stackActsSpec)) stackActsUptoCard

/-- THE SECOND FORM's CARD OF 'decanterlaw15.AdoptKeeps'. -/
def adoptKeepsUptoCard : Claim7 := { stood := { row := adoptKeepsUptoRow, standIns := [], harness := (true, "c3b0e9dc9c92d4f0fa62ba35363ad4cf98a1fccb638a168805a64b474da8cd64"), looks := false }, kinds := [], alts := [], laidByText := true, laidKinds := [.data, .listed, .data, .pinned], laidTests := true, laidLooks := .later }
def AdoptKeepsUptoCardSaid : Prop := Claim7.holds Tryd.pinned (.plain (OpenSpec.upto adoptKeepsSpec)) adoptKeepsUptoCard

/-- THE SECOND FORM's CARD OF 'decanterlaw15.AdoptPlain'. -/
def adoptPlainUptoCard : Claim7 := { stood := { row := adoptPlainUptoRow, standIns := [], harness := (true, "c3b0e9dc9c92d4f0fa62ba35363ad4cf98a1fccb638a168805a64b474da8cd64"), looks := false }, kinds := [], alts := [], laidByText := true, laidKinds := [.data, .listed, .data, .pinned], laidTests := true, laidLooks := .later }
def AdoptPlainUptoCardSaid : Prop := Claim7.holds Tryd.pinned (.plain (OpenSpec.upto adoptPlainSpec)) adoptPlainUptoCard

/-- THE SECOND FORM's CARD OF 'decanterlaw15.AdoptBlock'. -/
def adoptBlockUptoCard : Claim7 := { stood := { row := adoptBlockUptoRow, standIns := [], harness := (true, "c3b0e9dc9c92d4f0fa62ba35363ad4cf98a1fccb638a168805a64b474da8cd64"), looks := false }, kinds := [], alts := [], laidByText := true, laidKinds := [.data, .listed, .data, .pinned], laidTests := true, laidLooks := .later }
def AdoptBlockUptoCardSaid : Prop := Claim7.holds Tryd.pinned (.plain (OpenSpec.upto adoptBlockSpec)) adoptBlockUptoCard
end Rows
end Go.Proofs.YtcapooghkabloaaDoor
