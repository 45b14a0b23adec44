/- A script's calls, read off one's own row. -/
import Derived.Test.YtjabhhpmofodlaaGreatDoorL1
import Derived.Test.YtjabhhpmofodlaaGreatDoorH2
namespace Go.Proofs.YtjabhhpmofodlaaGreatDoor
open Go.RowKit
set_option linter.unusedVariables false
set_option linter.unusedSimpArgs false
theorem opFlat_length (l : List Op) : (opFlat l).length = l.length * 9 := by
  induction l with
  | nil => rfl
  | cons a r ih =>
    have e : opFlat (a :: r) = opCells a ++ opFlat r := rfl
    rw [e, List.length_append, ih]
    simp [opCells]; omega
theorem opFlat_get (l : List Op) (j i : Nat) (hj : j < l.length) (hi : i < 9) : (opFlat l)[j * 9 + i]? = (opCells l[j])[i]? := by
  induction l generalizing j with
  | nil => simp at hj
  | cons a r ih =>
    have e : opFlat (a :: r) = opCells a ++ opFlat r := rfl
    have hl : (opCells a).length = 9 := rfl
    rw [e]
    cases j with
    | zero => rw [List.getElem?_append_left (by omega)]; simp
    | succ j =>
      rw [List.getElem?_append_right (by omega), hl, show (j + 1) * 9 + i - 9 = j * 9 + i by omega]
      simpa using ih j (by simpa using hj)
/-- The script, opened: its calls lie in one block that is new since base. -/
theorem own_ops {w : World} {base : Nat} {v : Value} {l : List Op} (h : w.ownsRow base 39 9 v l.length (opFlat l)) :
    ∃ p cap, v = .slice p l.length cap ∧ ∀ j (hj : j < l.length), ∃ g, p = some ⟨g, 0, none⟩ ∧ base ≤ g ∧ g < w.heap.size ∧ ∀ i u, (opCells l[j])[i]? = some u → w.cell? ⟨g, j * 9 + i, none⟩ = some u := by
  rcases h.2 with ⟨rfl, h2⟩ | ⟨g, cap, cur, rfl, hg, hb, hn, hm, hs, hc⟩
  · exact ⟨none, 0, by rw [h2], fun j hj => by omega⟩
  · refine ⟨_, cap, rfl, fun j hj => ⟨g, rfl, hg, (Array.getElem?_eq_some_iff.1 hb).1, fun i u hu => ?_⟩⟩
    have hi : i < 9 := (List.getElem?_eq_some_iff.1 hu).1
    have := opFlat_get l j i hj hi
    rw [hu, ← hc, List.getElem?_take_of_lt (by omega)] at this
    rw [cell_arr hb]; simpa using this
end Go.Proofs.YtjabhhpmofodlaaGreatDoor
