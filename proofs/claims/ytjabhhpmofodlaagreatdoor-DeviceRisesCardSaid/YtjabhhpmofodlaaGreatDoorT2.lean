/- topic.name. -/
import Derived.Test.YtjabhhpmofodlaaGreatDoorV3
import Derived.Laws.RangeAny
namespace Go.Proofs.YtjabhhpmofodlaaGreatDoor
open Go.RowKit
set_option linter.unusedVariables false
set_option linter.unusedSimpArgs false
/-- May a letter stand in a name? -/
def okc (c : Int) : Bool := (decide (97 ≤ c) && decide (c ≤ 122)) || (decide (48 ≤ c) && decide (c ≤ 57)) || c == 45 || c == 95
theorem okc_iff (c : Int) : okc c = true ↔ (97 ≤ c ∧ c ≤ 122) ∨ (48 ≤ c ∧ c ≤ 57) ∨ c = 45 ∨ c = 95 := by
  unfold okc; simp only [Bool.or_eq_true, Bool.and_eq_true, decide_eq_true_eq, beq_iff_eq, or_assoc]
theorem okc_lt {c : Int} (h : okc c = true) : 45 ≤ c ∧ c ≤ 122 := by have := (okc_iff c).1 h; omega
theorem okc_false {c : Int} (h : ¬ ((97 ≤ c ∧ c ≤ 122) ∨ (48 ≤ c ∧ c ≤ 57) ∨ c = 45 ∨ c = 95)) : okc c = false := by
  cases h' : okc c with
  | false => rfl
  | true => exact absurd ((okc_iff c).1 h') h
set_option maxRecDepth 100000 in
set_option maxHeartbeats 1000000 in
theorem okc_any (c : Int) (w : World) : Calls Tryz.prog 191 #[.int .i32 c] w fun e w' => e = .returned (.bool (okc c)) ∧ w = w' := by
  have hk := okc_iff c
  have hf := @okc_false c
  have HK := Lib.hid hk
  have HF := Lib.hid hf
  clear hk hf
  by_cases h1 : 97 ≤ c
  · by_cases h2 : c ≤ 122
    · have e : okc c = true := HK.out.2 (by omega)
      rw [e]
      go_enter Tryz.func191, Tryz.ntmps191
      go_wp2
      all_goals (go_ret; exact ⟨rfl, rfl⟩)
    · have e : okc c = false := HF.out (by omega)
      have h3 : ¬ c ≤ 57 := by omega
      have h4 : (c == 45) = false := by rw [beq_eq_false_iff_ne]; omega
      have h5 : (c == 95) = false := by rw [beq_eq_false_iff_ne]; omega
      rw [e]
      go_enter Tryz.func191, Tryz.ntmps191
      go_wp2
      all_goals (go_ret; exact ⟨rfl, rfl⟩)
  · by_cases h2 : 48 ≤ c ∧ c ≤ 57
    · have e : okc c = true := HK.out.2 (by omega)
      obtain ⟨h2, h3⟩ := h2
      rw [e]
      go_enter Tryz.func191, Tryz.ntmps191
      go_wp2
      all_goals (go_ret; exact ⟨rfl, rfl⟩)
    · by_cases h4 : c = 45
      · have e : okc c = true := HK.out.2 (by omega)
        subst h4
        rw [e]
        go_enter Tryz.func191, Tryz.ntmps191
        go_wp2
        all_goals (go_ret; exact ⟨rfl, rfl⟩)
      · have h4' : (c == 45) = false := by rw [beq_eq_false_iff_ne]; omega
        have hE : okc c = (c == 95) := by
          cases h5 : (c == 95) with
          | true => exact HK.out.2 (by simp at h5; omega)
          | false => exact HF.out (by simp at h5; omega)
        rw [hE]
        clear hE
        have h6 : (decide (48 ≤ c) && decide (c ≤ 57)) = false := by simp; omega
        go_enter Tryz.func191, Tryz.ntmps191
        go_wp2
        all_goals (go_ret; first | exact ⟨rfl, rfl⟩ | exact ⟨ret_b (by rw [show decide (c ≤ 57) = false from by simp; omega]; rfl), rfl⟩)
def allok (s : ByteArray) : Bool := s.data.toList.all fun b => okc b.toNat
def nameB (s : ByteArray) : Bool := allok s && (!s.toList.isEmpty && decide ((s.size : Int) ≤ 16))
theorem nameB_no {s : ByteArray} (h : allok s = false) : nameB s = false := by unfold nameB; rw [h]; rfl
theorem allok_not {s : ByteArray} (i : Nat) (hi : i < s.size) (h : okc (s[i]'hi).toNat = false) : allok s = false := by
  cases h' : allok s with
  | false => rfl
  | true =>
    unfold allok at h'
    rw [List.all_eq_true] at h'
    have := h' (s[i]'hi) (by simp [ByteArray.getElem_eq_getElem_data])
    rw [h] at this; cases this
theorem nameB_yes {s : ByteArray} (h : allok s = true) : nameB s = (!s.toList.isEmpty && decide ((s.size : Int) ≤ 16)) := by unfold nameB; rw [h]; rfl
theorem allok_at {s : ByteArray} (h : allok s = true) (i : Nat) (hi : i < s.size) : okc (s[i]'hi).toNat = true := by
  unfold allok at h
  rw [List.all_eq_true] at h
  exact h _ (by simp [ByteArray.getElem_eq_getElem_data])
theorem allok_no {s : ByteArray} (h : ∀ i (hi : i < s.size), okc (s[i]'hi).toNat = true) : allok s = true := by
  unfold allok
  rw [List.all_eq_true]
  intro b hb
  obtain ⟨i, hi, rfl⟩ := List.getElem_of_mem hb
  exact h i (by simpa using hi)
set_option maxRecDepth 100000 in
set_option maxHeartbeats 1000000 in
theorem name_any (s : ByteArray) (w : World) : Calls Tryz.prog 145 #[.string s] w fun e w' => e = .returned (.bool (nameB s)) ∧ Below w.heap.size w w' := by
  go_enter Tryz.func145, Tryz.ntmps145
  go_wp2_with fail
  go_loopw [8] (fun _ w' => ∃ pos : Nat, w' = w.iter s pos ∧ pos ≤ s.size ∧ ∀ i (hi : i < s.size), i < pos → okc (s[i]'hi).toNat = true) (fun _ w' => s.size - w'.iterPos w.heap.size)
  case atStart => exact ⟨0, rfl, Nat.zero_le _, fun _ _ h => absurd h (by omega)⟩
  case round =>
    obtain ⟨pos, rfl, hle, hpre⟩ := hrel
    have HP := Lib.hid hpre
    clear hpre
    by_cases hp : pos < s.size
    · by_cases ha : (s[pos]'hp).toNat < 128
      · have hnx : ∀ ty, (Instr.next (.pointer (some ⟨w.heap.size, 0, none⟩)) true ty).run Tryz.prog (w.iter s pos) = _ := fun ty => run_next_ascii w s pos ty hp ha
        cases hk : okc (s[pos]'hp).toNat
        · go_wp2_with (go_at_call 191; refine (okc_any _ _).mono ?_; rintro e w' ⟨rfl, rfl⟩)
          go_ret
          exact ⟨ret_b (nameB_no (allok_not pos hp hk)).symm, (Below.refl _ _).alloc (Nat.le_refl _) _⟩
        · go_wp2_with (go_at_call 191; refine (okc_any _ _).mono ?_; rintro e w' ⟨rfl, rfl⟩)
          refine ⟨⟨pos + 1, rfl, hp, fun i hi hlt => ?_⟩, by simp; omega⟩
          by_cases e : i = pos
          · subst e; exact hk
          · exact HP.out i hi (by omega)
      · have hd := decode_high s pos hp (by omega)
        have hno : okc ((Utf8.decode s pos).1 : Int) = false := by
          cases h : okc ((Utf8.decode s pos).1 : Int) with
          | false => rfl
          | true => have := okc_lt h; omega
        have hno' : okc (s[pos]'hp).toNat = false := by
          cases h : okc (s[pos]'hp).toNat with
          | false => rfl
          | true => have := okc_lt h; omega
        have hnx : ∀ ty, (Instr.next (.pointer (some ⟨w.heap.size, 0, none⟩)) true ty).run Tryz.prog (w.iter s pos) = _ := fun ty => run_next_any w s pos ty hp
        clear hd
        go_wp2_with (go_at_call 191; refine (okc_any _ _).mono ?_; rintro e w' ⟨rfl, rfl⟩)
        go_ret
        exact ⟨ret_b (nameB_no (allok_not pos hp hno')).symm, (Below.refl _ _).alloc (Nat.le_refl _) _⟩
    · have hnx : ∀ ty, (Instr.next (.pointer (some ⟨w.heap.size, 0, none⟩)) true ty).run Tryz.prog (w.iter s pos) = _ := fun ty => run_next_end w s pos ty hp
      have hall := Lib.hid (nameB_yes (allok_no (s := s) (fun i hi => HP.out i hi (by omega))))
      go_wp2
      all_goals (go_ret; exact ⟨ret_b (by first | (rw [hall.out]; done) | (rw [hall.out]; simp [*])), (Below.refl _ _).alloc (Nat.le_refl _) _⟩)
end Go.Proofs.YtjabhhpmofodlaaGreatDoor
