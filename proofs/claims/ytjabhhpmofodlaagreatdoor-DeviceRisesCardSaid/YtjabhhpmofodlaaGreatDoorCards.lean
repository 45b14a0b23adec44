/-
  DERIVED. GIVEN WITH THE SEED: THE CARDS: each row of YtjabhhpmofodlaaGreatDoorRows.lean that lists a variable, with what it lists TIED to the program's text (the seventh form; the later family's looks); each row that meets fmt, with fmt's text TOLD by the authors' own Lean function (tested against real Go, not proved from fmt's source: count such statements apart). THE CARD IS WHAT COUNTS. Prove the row's statement (the work); the ties are given (YtjabhhpmofodlaaGreatDoorTie.lean); close each card by the builder's one call (the guide's Derived/Test/ToyasCard.lean, 'card_holds'). Laid BY PROGRAM, IN A SANDBOX (cutbox-door.mjs). By AI agents, Wed Nov 11 2026. No macro, syntax, notation, axiom, sorry.
-/
import Derived.Test.YtjabhhpmofodlaaGreatDoorRows
import GoSem.ClaimSeven
namespace Go.Proofs.YtjabhhpmofodlaaGreatDoor
namespace Rows

/-- THE TIED CARD OF 'rivuletlaw19.DeviceLoads'. -/
def deviceLoadsCard : Claim7 := { stood := { row := deviceLoadsRow, standIns := [], harness := (true, "55c3dc5ba27ec5bc53fb5d43a64d11497e210adac8ea34bc735e545af9727797"), looks := true }, kinds := [], alts := [], laidByText := true, laidKinds := [.data, .pinned], laidTests := true, laidLooks := .later }
def DeviceLoadsCardSaid : Prop := Claim7.holds Tryz.pinned (.plain (OpenSpec.ofChange deviceLoadsSpec)) deviceLoadsCard

/-- THE TIED CARD OF 'rivuletlaw19.DeviceRises'. -/
def deviceRisesCard : Claim7 := { stood := { row := deviceRisesRow, standIns := [], harness := (true, "55c3dc5ba27ec5bc53fb5d43a64d11497e210adac8ea34bc735e545af9727797"), looks := true }, kinds := [], alts := [], laidByText := true, laidKinds := [.data, .pinned], laidTests := true, laidLooks := .later }
def DeviceRisesCardSaid : Prop := Claim7.holds Tryz.pinned (.plain (OpenSpec.ofChange deviceRisesSpec)) deviceRisesCard

/-- THE TIED CARD OF 'rivuletlaw19.DeviceAsks'. -/
def deviceAsksCard : Claim7 := { stood := { row := deviceAsksRow, standIns := [], harness := (true, "55c3dc5ba27ec5bc53fb5d43a64d11497e210adac8ea34bc735e545af9727797"), looks := true }, kinds := [], alts := [], laidByText := true, laidKinds := [.data, .pinned], laidTests := true, laidLooks := .later }
def DeviceAsksCardSaid : Prop := Claim7.holds Tryz.pinned (.plain (OpenSpec.ofChange deviceAsksSpec)) deviceAsksCard

/-- THE TIED CARD OF 'rivuletlaw19.DeviceSaves'. -/
def deviceSavesCard : Claim7 := { stood := { row := deviceSavesRow, standIns := [], harness := (true, "55c3dc5ba27ec5bc53fb5d43a64d11497e210adac8ea34bc735e545af9727797"), looks := true }, kinds := [], alts := [], laidByText := true, laidKinds := [.data, .pinned], laidTests := true, laidLooks := .later }
def DeviceSavesCardSaid : Prop := Claim7.holds Tryz.pinned (.plain (OpenSpec.ofChange deviceSavesSpec)) deviceSavesCard

/-- THE TIED CARD OF 'rivuletlaw19.DeviceFresh'. -/
def deviceFreshCard : Claim7 := { stood := { row := deviceFreshRow, standIns := [], harness := (true, "55c3dc5ba27ec5bc53fb5d43a64d11497e210adac8ea34bc735e545af9727797"), looks := true }, kinds := [], alts := [], laidByText := true, laidKinds := [.data, .pinned], laidTests := true, laidLooks := .later }
def DeviceFreshCardSaid : Prop := Claim7.holds Tryz.pinned (.plain (OpenSpec.ofChange deviceFreshSpec)) deviceFreshCard

/-- THE TIED CARD OF 'rivuletlaw11.BookDoes'. -/
def bookDoesCard : Claim7 := { stood := { row := bookDoesRow, standIns := [], harness := (true, "55c3dc5ba27ec5bc53fb5d43a64d11497e210adac8ea34bc735e545af9727797"), looks := true }, kinds := [], alts := [], laidByText := true, laidKinds := [.data, .pinned], laidTests := true, laidLooks := .later }
def BookDoesCardSaid : Prop := Claim7.holds Tryz.pinned (.plain (OpenSpec.ofChange bookDoesSpec)) bookDoesCard

/-- THE TIED CARD OF 'rivuletlaw11.BookRecovers'. -/
def bookRecoversCard : Claim7 := { stood := { row := bookRecoversRow, standIns := [], harness := (true, "55c3dc5ba27ec5bc53fb5d43a64d11497e210adac8ea34bc735e545af9727797"), looks := true }, kinds := [], alts := [], laidByText := true, laidKinds := [.data, .pinned], laidTests := true, laidLooks := .later }
def BookRecoversCardSaid : Prop := Claim7.holds Tryz.pinned (.plain (OpenSpec.ofChange bookRecoversSpec)) bookRecoversCard

/-- THE TIED CARD OF 'rivuletlaw11.BookRises'. -/
def bookRisesCard : Claim7 := { stood := { row := bookRisesRow, standIns := [], harness := (true, "55c3dc5ba27ec5bc53fb5d43a64d11497e210adac8ea34bc735e545af9727797"), looks := true }, kinds := [], alts := [], laidByText := true, laidKinds := [.data, .pinned], laidTests := true, laidLooks := .later }
def BookRisesCardSaid : Prop := Claim7.holds Tryz.pinned (.plain (OpenSpec.ofChange bookRisesSpec)) bookRisesCard

/-- THE TIED CARD OF 'rivuletlaw11.BookAgain'. -/
def bookAgainCard : Claim7 := { stood := { row := bookAgainRow, standIns := [], harness := (true, "55c3dc5ba27ec5bc53fb5d43a64d11497e210adac8ea34bc735e545af9727797"), looks := true }, kinds := [], alts := [], laidByText := true, laidKinds := [.data, .pinned], laidTests := true, laidLooks := .later }
def BookAgainCardSaid : Prop := Claim7.holds Tryz.pinned (.plain (OpenSpec.ofChange bookAgainSpec)) bookAgainCard

/-- THE TIED CARD OF 'rivuletlaw11.BookMisses'. -/
def bookMissesCard : Claim7 := { stood := { row := bookMissesRow, standIns := [], harness := (true, "55c3dc5ba27ec5bc53fb5d43a64d11497e210adac8ea34bc735e545af9727797"), looks := true }, kinds := [], alts := [], laidByText := true, laidKinds := [.data, .pinned], laidTests := true, laidLooks := .later }
def BookMissesCardSaid : Prop := Claim7.holds Tryz.pinned (.plain (OpenSpec.ofChange bookMissesSpec)) bookMissesCard

/-- THE TIED CARD OF 'rivuletlaw11.BookEmpties'. -/
def bookEmptiesCard : Claim7 := { stood := { row := bookEmptiesRow, standIns := [], harness := (true, "55c3dc5ba27ec5bc53fb5d43a64d11497e210adac8ea34bc735e545af9727797"), looks := true }, kinds := [], alts := [], laidByText := true, laidKinds := [.data, .pinned], laidTests := true, laidLooks := .later }
def BookEmptiesCardSaid : Prop := Claim7.holds Tryz.pinned (.plain (OpenSpec.ofChange bookEmptiesSpec)) bookEmptiesCard

/-- THE SECOND FORM's CARD OF 'rivuletlaw19.DeviceLoads'. -/
def deviceLoadsUptoCard : Claim7 := { stood := { row := deviceLoadsUptoRow, standIns := [], harness := (true, "55c3dc5ba27ec5bc53fb5d43a64d11497e210adac8ea34bc735e545af9727797"), looks := true }, kinds := [], alts := [], laidByText := true, laidKinds := [.data, .pinned], laidTests := true, laidLooks := .later }
def DeviceLoadsUptoCardSaid : Prop := Claim7.holds Tryz.pinned (.plain (OpenSpec.upto deviceLoadsSpec)) deviceLoadsUptoCard

/-- THE SECOND FORM's CARD OF 'rivuletlaw19.DeviceRises'. -/
def deviceRisesUptoCard : Claim7 := { stood := { row := deviceRisesUptoRow, standIns := [], harness := (true, "55c3dc5ba27ec5bc53fb5d43a64d11497e210adac8ea34bc735e545af9727797"), looks := true }, kinds := [], alts := [], laidByText := true, laidKinds := [.data, .pinned], laidTests := true, laidLooks := .later }
def DeviceRisesUptoCardSaid : Prop := Claim7.holds Tryz.pinned (.plain (OpenSpec.upto deviceRisesSpec)) deviceRisesUptoCard

/-- THE SECOND FORM's CARD OF 'rivuletlaw19.DeviceAsks'. -/
def deviceAsksUptoCard : Claim7 := { stood := { row := deviceAsksUptoRow, standIns := [], harness := (true, "55c3dc5ba27ec5bc53fb5d43a64d11497e210adac8ea34bc735e545af9727797"), looks := true }, kinds := [], alts := [], laidByText := true, laidKinds := [.data, .pinned], laidTests := true, laidLooks := .later }
def DeviceAsksUptoCardSaid : Prop := Claim7.holds Tryz.pinned (.plain (OpenSpec.upto deviceAsksSpec)) deviceAsksUptoCard

/-- THE SECOND FORM's CARD OF 'rivuletlaw19.DeviceSaves'. -/
def deviceSavesUptoCard : Claim7 := { stood := { row := deviceSavesUptoRow, standIns := [], harness := (true, "55c3dc5ba27ec5bc53fb5d43a64d11497e210adac8ea34bc735e545af9727797"), looks := true }, kinds := [], alts := [], laidByText := true, laidKinds := [.data, .pinned], laidTests := true, laidLooks := .later }
def DeviceSavesUptoCardSaid : Prop := Claim7.holds Tryz.pinned (.plain (OpenSpec.upto deviceSavesSpec)) deviceSavesUptoCard

/-- THE SECOND FORM's CARD OF 'rivuletlaw19.DeviceFresh'. -/
def deviceFreshUptoCard : Claim7 := { stood := { row := deviceFreshUptoRow, standIns := [], harness := (true, "55c3dc5ba27ec5bc53fb5d43a64d11497e210adac8ea34bc735e545af9727797"), looks := true }, kinds := [], alts := [], laidByText := true, laidKinds := [.data, .pinned], laidTests := true, laidLooks := .later }
def DeviceFreshUptoCardSaid : Prop := Claim7.holds Tryz.pinned (.plain (OpenSpec.upto deviceFreshSpec)) deviceFreshUptoCard

/-- THE SECOND FORM's CARD OF 'rivuletlaw11.BookDoes'. -/
def bookDoesUptoCard : Claim7 := { stood := { row := bookDoesUptoRow, standIns := [], harness := (true, "55c3dc5ba27ec5bc53fb5d43a64d11497e210adac8ea34bc735e545af9727797"), looks := true }, kinds := [], alts := [], laidByText := true, laidKinds := [.data, .pinned], laidTests := true, laidLooks := .later }
def BookDoesUptoCardSaid : Prop := Claim7.holds Tryz.pinned (.plain (OpenSpec.upto bookDoesSpec)) bookDoesUptoCard

/-- THE SECOND FORM's CARD OF 'rivuletlaw11.BookRecovers'. -/
def bookRecoversUptoCard : Claim7 := { stood := { row := bookRecoversUptoRow, standIns := [], harness := (true, "55c3dc5ba27ec5bc53fb5d43a64d11497e210adac8ea34bc735e545af9727797"), looks := true }, kinds := [], alts := [], laidByText := true, laidKinds := [.data, .pinned], laidTests := true, laidLooks := .later }
def BookRecoversUptoCardSaid : Prop := Claim7.holds Tryz.pinned (.plain (OpenSpec.upto bookRecoversSpec)) bookRecoversUptoCard

/-- THE SECOND FORM's CARD OF 'rivuletlaw11.BookRises'. -/
def bookRisesUptoCard : Claim7 := { stood := { row := bookRisesUptoRow, standIns := [], harness := (true, "55c3dc5ba27ec5bc53fb5d43a64d11497e210adac8ea34bc735e545af9727797"), looks := true }, kinds := [], alts := [], laidByText := true, laidKinds := [.data, .pinned], laidTests := true, laidLooks := .later }
def BookRisesUptoCardSaid : Prop := Claim7.holds Tryz.pinned (.plain (OpenSpec.upto bookRisesSpec)) bookRisesUptoCard

/-- THE SECOND FORM's CARD OF 'rivuletlaw11.BookAgain'. -/
def bookAgainUptoCard : Claim7 := { stood := { row := bookAgainUptoRow, standIns := [], harness := (true, "55c3dc5ba27ec5bc53fb5d43a64d11497e210adac8ea34bc735e545af9727797"), looks := true }, kinds := [], alts := [], laidByText := true, laidKinds := [.data, .pinned], laidTests := true, laidLooks := .later }
def BookAgainUptoCardSaid : Prop := Claim7.holds Tryz.pinned (.plain (OpenSpec.upto bookAgainSpec)) bookAgainUptoCard

/-- THE SECOND FORM's CARD OF 'rivuletlaw11.BookMisses'. -/
def bookMissesUptoCard : Claim7 := { stood := { row := bookMissesUptoRow, standIns := [], harness := (true, "55c3dc5ba27ec5bc53fb5d43a64d11497e210adac8ea34bc735e545af9727797"), looks := true }, kinds := [], alts := [], laidByText := true, laidKinds := [.data, .pinned], laidTests := true, laidLooks := .later }
def BookMissesUptoCardSaid : Prop := Claim7.holds Tryz.pinned (.plain (OpenSpec.upto bookMissesSpec)) bookMissesUptoCard

/-- THE SECOND FORM's CARD OF 'rivuletlaw11.BookEmpties'. -/
def bookEmptiesUptoCard : Claim7 := { stood := { row := bookEmptiesUptoRow, standIns := [], harness := (true, "55c3dc5ba27ec5bc53fb5d43a64d11497e210adac8ea34bc735e545af9727797"), looks := true }, kinds := [], alts := [], laidByText := true, laidKinds := [.data, .pinned], laidTests := true, laidLooks := .later }
def BookEmptiesUptoCardSaid : Prop := Claim7.holds Tryz.pinned (.plain (OpenSpec.upto bookEmptiesSpec)) bookEmptiesUptoCard
end Rows
end Go.Proofs.YtjabhhpmofodlaaGreatDoor
