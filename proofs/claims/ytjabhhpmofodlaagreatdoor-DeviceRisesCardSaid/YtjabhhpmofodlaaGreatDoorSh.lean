/- The library's contracts that this claim needs, in its own words (laid in YtjabhhpmofodlaaGreatDoorShelf). -/
import Derived.Test.YtjabhhpmofodlaaGreatDoorShelf
import Derived.Test.YtjabhhpmofodlaaGreatDoorLib
namespace Go.Proofs.YtjabhhpmofodlaaGreatDoor
open Go.RowKit Go.Shelf
set_option linter.unusedVariables false
theorem idx1 (s : ByteArray) (w : World) : Calls Tryz.prog 224 #[.string s, .string ⟨#[47]⟩] w fun e w' => e = .returned (.int .i64 (Lib.indexByte s.data.toList 47)) ∧ w' = w := Any.strings_Index_one Tryz.lays143 s 47 w
end Go.Proofs.YtjabhhpmofodlaaGreatDoor
