/- device.read: one more mark (the round of its last loop). -/
import Derived.Test.YtjabhhpmofodlaaGreatDoorG7
import Derived.StillTailTactics
namespace Go.Proofs.YtjabhhpmofodlaaGreatDoor
open Go.RowKit
set_option linter.unusedVariables false
set_option linter.unusedSimpArgs false
def dFils (s : ByteArray) (id : Int) : Nat → List D1 → Int → Option (List D1 × Int)
  | 0, D, a => some (D, a)
  | m + 1, D, a => if (vcut s a).2.2 ≠ 0 then none else if (dAsk D id (vcut s a).1 true).1 ≠ 0 then none else dFils s id m (dAsk D id (vcut s a).1 true).2 (vcut s a).2.1
def dRead (D : List D1) (s : ByteArray) (a : Int) : Option (List D1 × Int × Int) :=
  match numR s a maxNum with
  | none => none
  | some (id, a1) => if (dJoin D id).1 ≠ 0 then none else
    match numR s a1 8 with
    | none => none
    | some (many, a2) => match dFils s id many.toNat (dJoin D id).2 a2 with
      | none => none
      | some (D2, a3) => if (ecut s a3).2.2 ≠ 0 then none else some (dSetM D2 id (ecut s a3).1, id, (ecut s a3).2.1)
/-- What comes of a read: the devices, or a panic. -/
def ReadPost (w : World) (bd bm : Nat) (L : List G) (R : Option (List D1 × Int × Int)) (e : Ending) (w' : World) : Prop :=
  match R with
  | some (D', id, a') => e = .returned (.tuple #[.int .i64 id, .int .i64 a']) ∧ Step w bd bm L w' D'
  | none => e = .panicked PE ∧ Turn (foot bm L) w w'
theorem Step.turn_ {w w1 : World} {bd bm : Nat} {L : List G} {D : List D1} (h : Step w bd bm L w1 D) : Turn (foot bm L) w w1 := by obtain ⟨_, _, _, _, h⟩ := h; exact h
theorem readPost_bad {w w1 w2 : World} {bd bm : Nat} {L : List G} {D : List D1} (h : Step w bd bm L w1 D) (hb : Below w1.heap.size w1 w2) : Turn (foot bm L) w w2 :=
  h.turn_.trans (Turn.of_below' (S := fun _ => False) hb) (fun _ _ h => h.elim)
theorem dfind_ins {D : List D1} {id id' : Int} (hn : ∀ p ∈ D, p.1 ≠ id) : ((dIns (id, [], []) D).find? fun x => x.1 == id) = some (id, [], []) := by
  induction D with
  | nil => simp [dIns]
  | cons y r ih =>
    unfold dIns
    split
    · simp
    · have := hn y (by simp)
      have e : (y.1 == id) = false := by simpa using this
      rw [List.find?_cons, e]
      exact ih fun p hp => hn p (by simp [hp])
theorem dJoin_find {D : List D1} {id : Int} (h : (dJoin D id).1 = 0) : ((dJoin D id).2.find? fun x => x.1 == id) = some (id, [], []) := by
  unfold dJoin at *
  split at h
  · simp at h
  · split at h
    · simp at h
    · rename_i h1 h2
      split at h
      · simp at h
      · rename_i h3
        rw [if_neg h1, if_neg h2, if_neg h3]
        exact dfind_ins (id' := id) (find_isSome_false h2)
theorem dSetF_find (D : List D1) (id : Int) (F : List ByteArray) : ((dSetF D id F).find? fun x => x.1 == id) = (D.find? fun x => x.1 == id).map fun x => (x.1, F, x.2.2) := by
  unfold dSetF
  induction D with
  | nil => rfl
  | cons y r ih =>
    rw [List.map_cons, List.find?_cons, List.find?_cons]
    by_cases e : (y.1 == id) = true
    · simp [e]
    · have e : (y.1 == id) = false := by simpa using e
      rw [e]; simp only [Bool.false_eq_true, if_false, e]; exact ih
theorem dAsk_find {D : List D1} {id : Int} {f : ByteArray} {on : Bool} {x : D1} (h : (D.find? fun x => x.1 == id) = some x) : ∃ F, ((dAsk D id f on).2.find? fun x => x.1 == id) = some (x.1, F, x.2.2) := by
  unfold dAsk
  rw [h]
  simp only
  split
  · exact ⟨_, h⟩
  · split
    · split
      · exact ⟨_, h⟩
      · split
        · exact ⟨_, h⟩
        · exact ⟨_, by rw [dSetF_find, h]; rfl⟩
    · split
      · exact ⟨_, h⟩
      · exact ⟨_, by rw [dSetF_find, h]; rfl⟩
theorem dSetM_find (D : List D1) (id : Int) (M : List Mk) : ((dSetM D id M).find? fun x => x.1 == id) = (D.find? fun x => x.1 == id).map fun x => (x.1, x.2.1, M) := by
  unfold dSetM
  induction D with
  | nil => rfl
  | cons y r ih =>
    rw [List.map_cons, List.find?_cons, List.find?_cons]
    by_cases e : (y.1 == id) = true
    · simp [e]
    · have e : (y.1 == id) = false := by simpa using e
      rw [e]; simp only [Bool.false_eq_true, if_false, e]; exact ih
theorem dSetM_dSetM (D : List D1) (id : Int) (M N : List Mk) : dSetM (dSetM D id M) id N = dSetM D id N := by
  unfold dSetM
  rw [List.map_map]
  apply List.map_congr_left
  intro x _
  simp only [Function.comp_apply]
  by_cases e : (x.1 == id) = true <;> simp [e]
theorem dSetM_same {D : List D1} (h : D.Pairwise fun a b => a.1 < b.1) {id : Int} {x : D1} (hf : (D.find? fun x => x.1 == id) = some x) : dSetM D id x.2.2 = D := by
  unfold dSetM
  conv => rhs; rw [← List.map_id D]
  apply List.map_congr_left
  intro y hy
  by_cases e : y.1 = id
  · obtain rfl := dfind_unique h hf hy e
    simp
  · have e' : (y.1 == id) = false := by simpa using e
    simp [e']
theorem ab_find_some {L : List G} {id : Int} {x : D1} (h : ((ab L).find? fun x => x.1 == id) = some x) : ∃ y, (L.find? fun x => x.id == id) = some y ∧ y ∈ L ∧ y.id = id ∧ x = (y.id, y.F, y.M) := by
  rw [ab_find] at h
  obtain ⟨y, hy, e⟩ := Option.map_eq_some_iff.1 h
  exact ⟨y, hy, List.mem_of_find?_eq_some hy, by have := List.find?_some hy; simpa using this, e.symm⟩
end Go.Proofs.YtjabhhpmofodlaaGreatDoor
