/-
  DERIVED. GIVEN WITH THE SEED: THE CARDS: each row of YtknieebmcpgppaaDoorRows.lean that lists a variable, with what it lists TIED to the program's text (the seventh form; the later family's looks); each row that meets fmt, with fmt's text TOLD by the authors' own Lean function (tested against real Go, not proved from fmt's source: count such statements apart). THE CARD IS WHAT COUNTS. Prove the row's statement (the work); the ties are given (YtknieebmcpgppaaDoorTie.lean); close each card by the builder's one call (the guide's Derived/Test/ToyasCard.lean, 'card_holds'). Laid BY PROGRAM, IN A SANDBOX (cutbox-door.mjs). By AI agents, Wed Nov 11 2026. No macro, syntax, notation, axiom, sorry.
-/
import Derived.Test.YtknieebmcpgppaaDoorRows
import GoSem.ClaimSeven
namespace Go.Proofs.YtknieebmcpgppaaDoor
namespace Rows

/-- THE TIED CARD OF 'underpinlaw03.BitsCalls'. -/
def bitsCallsCard : Claim7 := { stood := { row := bitsCallsRow, standIns := [], harness := (true, "11aca0b7a15b639284f9279b48e8520800e3c8c2f756a23233a275202fb0f33e"), looks := false }, kinds := [], alts := [], laidByText := true, laidKinds := [.data], laidTests := true, laidLooks := .later }
def BitsCallsCardSaid : Prop := Claim7.holds Tryd.pinned (.plain (OpenSpec.ofChange bitsCallsSpec)) bitsCallsCard

/-- THE TIED CARD OF 'underpinlaw03.BitsKeys'. -/
def bitsKeysCard : Claim7 := { stood := { row := bitsKeysRow, standIns := [], harness := (true, "11aca0b7a15b639284f9279b48e8520800e3c8c2f756a23233a275202fb0f33e"), looks := false }, kinds := [], alts := [], laidByText := true, laidKinds := [.data], laidTests := true, laidLooks := .later }
def BitsKeysCardSaid : Prop := Claim7.holds Tryd.pinned (.plain (OpenSpec.ofChange bitsKeysSpec)) bitsKeysCard

/-- THE TIED CARD OF 'underpinlaw03.BitsMates'. -/
def bitsMatesCard : Claim7 := { stood := { row := bitsMatesRow, standIns := [], harness := (true, "11aca0b7a15b639284f9279b48e8520800e3c8c2f756a23233a275202fb0f33e"), looks := false }, kinds := [], alts := [], laidByText := true, laidKinds := [.data], laidTests := true, laidLooks := .later }
def BitsMatesCardSaid : Prop := Claim7.holds Tryd.pinned (.plain (OpenSpec.ofChange bitsMatesSpec)) bitsMatesCard

/-- THE TIED CARD OF 'underpinlaw13.OldslabPlaces'. -/
def oldslabPlacesCard : Claim7 := { stood := { row := oldslabPlacesRow, standIns := [], harness := (true, "11aca0b7a15b639284f9279b48e8520800e3c8c2f756a23233a275202fb0f33e"), looks := false }, kinds := [], alts := [], laidByText := true, laidKinds := [.data], laidTests := true, laidLooks := .later }
def OldslabPlacesCardSaid : Prop := Claim7.holds Tryd.pinned (.plain (OpenSpec.ofChange oldslabPlacesSpec)) oldslabPlacesCard

/-- THE TIED CARD OF 'underpinlaw13.OldslabAll'. -/
def oldslabAllCard : Claim7 := { stood := { row := oldslabAllRow, standIns := [], harness := (true, "11aca0b7a15b639284f9279b48e8520800e3c8c2f756a23233a275202fb0f33e"), looks := false }, kinds := [], alts := [], laidByText := true, laidKinds := [.data], laidTests := true, laidLooks := .later }
def OldslabAllCardSaid : Prop := Claim7.holds Tryd.pinned (.plain (OpenSpec.ofChange oldslabAllSpec)) oldslabAllCard

/-- THE TIED CARD OF 'underpinlaw13.OldslabCalls'. -/
def oldslabCallsCard : Claim7 := { stood := { row := oldslabCallsRow, standIns := [], harness := (true, "11aca0b7a15b639284f9279b48e8520800e3c8c2f756a23233a275202fb0f33e"), looks := false }, kinds := [], alts := [], laidByText := true, laidKinds := [.data], laidTests := true, laidLooks := .later }
def OldslabCallsCardSaid : Prop := Claim7.holds Tryd.pinned (.plain (OpenSpec.ofChange oldslabCallsSpec)) oldslabCallsCard

/-- THE TIED CARD OF 'underpinlaw13.OldslabKeys'. -/
def oldslabKeysCard : Claim7 := { stood := { row := oldslabKeysRow, standIns := [], harness := (true, "11aca0b7a15b639284f9279b48e8520800e3c8c2f756a23233a275202fb0f33e"), looks := false }, kinds := [], alts := [], laidByText := true, laidKinds := [.data], laidTests := true, laidLooks := .later }
def OldslabKeysCardSaid : Prop := Claim7.holds Tryd.pinned (.plain (OpenSpec.ofChange oldslabKeysSpec)) oldslabKeysCard

/-- THE SECOND FORM's CARD OF 'underpinlaw03.BitsCalls'. -/
def bitsCallsUptoCard : Claim7 := { stood := { row := bitsCallsUptoRow, standIns := [], harness := (true, "11aca0b7a15b639284f9279b48e8520800e3c8c2f756a23233a275202fb0f33e"), looks := false }, kinds := [], alts := [], laidByText := true, laidKinds := [.data], laidTests := true, laidLooks := .later }
def BitsCallsUptoCardSaid : Prop := Claim7.holds Tryd.pinned (.plain (OpenSpec.upto bitsCallsSpec)) bitsCallsUptoCard

/-- THE SECOND FORM's CARD OF 'underpinlaw03.BitsKeys'. -/
def bitsKeysUptoCard : Claim7 := { stood := { row := bitsKeysUptoRow, standIns := [], harness := (true, "11aca0b7a15b639284f9279b48e8520800e3c8c2f756a23233a275202fb0f33e"), looks := false }, kinds := [], alts := [], laidByText := true, laidKinds := [.data], laidTests := true, laidLooks := .later }
def BitsKeysUptoCardSaid : Prop := Claim7.holds Tryd.pinned (.plain (OpenSpec.upto bitsKeysSpec)) bitsKeysUptoCard

/-- THE SECOND FORM's CARD OF 'underpinlaw03.BitsMates'. -/
def bitsMatesUptoCard : Claim7 := { stood := { row := bitsMatesUptoRow, standIns := [], harness := (true, "11aca0b7a15b639284f9279b48e8520800e3c8c2f756a23233a275202fb0f33e"), looks := false }, kinds := [], alts := [], laidByText := true, laidKinds := [.data], laidTests := true, laidLooks := .later }
def BitsMatesUptoCardSaid : Prop := Claim7.holds Tryd.pinned (.plain (OpenSpec.upto bitsMatesSpec)) bitsMatesUptoCard

/-- THE SECOND FORM's CARD OF 'underpinlaw13.OldslabPlaces'. -/
def oldslabPlacesUptoCard : Claim7 := { stood := { row := oldslabPlacesUptoRow, standIns := [], harness := (true, "11aca0b7a15b639284f9279b48e8520800e3c8c2f756a23233a275202fb0f33e"), looks := false }, kinds := [], alts := [], laidByText := true, laidKinds := [.data], laidTests := true, laidLooks := .later }
def OldslabPlacesUptoCardSaid : Prop := Claim7.holds Tryd.pinned (.plain (OpenSpec.upto oldslabPlacesSpec)) oldslabPlacesUptoCard

/-- THE SECOND FORM's CARD OF 'underpinlaw13.OldslabAll'. -/
def oldslabAllUptoCard : Claim7 := { stood := { row := oldslabAllUptoRow, standIns := [], harness := (true, "11aca0b7a15b639284f9279b48e8520800e3c8c2f756a23233a275202fb0f33e"), looks := false }, kinds := [], alts := [], laidByText := true, laidKinds := [.data], laidTests := true, laidLooks := .later }
def OldslabAllUptoCardSaid : Prop := Claim7.holds Tryd.pinned (.plain (OpenSpec.upto oldslabAllSpec)) oldslabAllUptoCard

/-- THE SECOND FORM's CARD OF 'underpinlaw13.OldslabCalls'. -/
def oldslabCallsUptoCard : Claim7 := { stood := { row := oldslabCallsUptoRow, standIns := [], harness := (true, "11aca0b7a15b639284f9279b48e8520800e3c8c2f756a23233a275202fb0f33e"), looks := false }, kinds := [], alts := [], laidByText := true, laidKinds := [.data], laidTests := true, laidLooks := .later }
def OldslabCallsUptoCardSaid : Prop := Claim7.holds Tryd.pinned (.plain (OpenSpec.upto oldslabCallsSpec)) oldslabCallsUptoCard

/-- THE SECOND FORM's CARD OF 'underpinlaw13.OldslabKeys'. -/
def oldslabKeysUptoCard : Claim7 := { stood := { row := oldslabKeysUptoRow, standIns := [], harness := (true, "11aca0b7a15b639284f9279b48e8520800e3c8c2f756a23233a275202fb0f33e"), looks := false }, kinds := [], alts := [], laidByText := true, laidKinds := [.data], laidTests := true, laidLooks := .later }
def OldslabKeysUptoCardSaid : Prop := Claim7.holds Tryd.pinned (.plain (OpenSpec.upto oldslabKeysSpec)) oldslabKeysUptoCard
end Rows
end Go.Proofs.YtknieebmcpgppaaDoor
