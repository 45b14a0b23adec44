/- Devices as plain rows: what stays true. -/
import Derived.Test.YtjabhhpmofodlaaGreatDoorG5
namespace Go.Proofs.YtjabhhpmofodlaaGreatDoor
open Go.RowKit
set_option linter.unusedVariables false
set_option linter.unusedSimpArgs false
theorem mem_dIns {x p : D1} {D : List D1} : p ∈ dIns x D ↔ p = x ∨ p ∈ D := by
  induction D with
  | nil => simp [dIns]
  | cons y r ih => unfold dIns; split <;> simp [ih]; grind
theorem dIns_length (x : D1) (D : List D1) : (dIns x D).length = D.length + 1 := by
  induction D with
  | nil => rfl
  | cons y r ih => unfold dIns; split <;> simp [ih]
theorem dIns_sorted {x : D1} {D : List D1} (h : D.Pairwise fun a b => a.1 < b.1) (hx : ∀ p ∈ D, p.1 ≠ x.1) : (dIns x D).Pairwise fun a b => a.1 < b.1 := by
  induction D with
  | nil => simp [dIns]
  | cons y r ih =>
    unfold dIns
    rw [List.pairwise_cons] at h
    split
    · rename_i hl
      simp only [List.pairwise_cons, List.mem_cons]
      refine ⟨?_, h.1, h.2⟩
      rintro p (rfl | hp)
      · exact hl
      · have := h.1 p hp; omega
    · rename_i hl
      rw [List.pairwise_cons]
      refine ⟨?_, ih h.2 fun p hp => hx p (by simp [hp])⟩
      intro p hp
      rcases mem_dIns.1 hp with rfl | hp
      · have := hx y (by simp); omega
      · exact h.1 p hp
theorem find_isSome_false {D : List D1} {id : Int} (h : ¬ (D.find? fun x => x.1 == id).isSome = true) : ∀ p ∈ D, p.1 ≠ id := by
  intro p hp e
  apply h
  rw [List.find?_isSome]
  exact ⟨p, hp, by simpa using e⟩
theorem dJoin_inv {D : List D1} (h : DInv D) (id : Int) : DInv (dJoin D id).2 := by
  unfold dJoin
  split
  · exact h
  · rename_i h1
    split
    · exact h
    · rename_i h2
      split
      · exact h
      · rename_i h3
        refine ⟨by rw [dIns_length]; omega, ?_, dIns_sorted h.sorted (find_isSome_false h2)⟩
        intro x hx
        rcases mem_dIns.1 hx with rfl | hx
        · exact ⟨by simp only; omega, by simp, by simp, by simp, by simp, by simp, by simp, by simp⟩
        · exact h.xs x hx
theorem dLeave_inv {D : List D1} (h : DInv D) (id : Int) : DInv (dLeave D id).2 := by
  unfold dLeave
  split
  · exact ⟨Nat.le_trans (List.length_filter_le _ _) h.len, fun x hx => h.xs x (List.mem_filter.1 hx).1, h.sorted.filter _⟩
  · exact h
theorem dSetF_inv {D : List D1} (h : DInv D) (id : Int) (F : List ByteArray) (hF : ∀ x ∈ D, x.1 = id → F.length ≤ 8 ∧ (∀ f ∈ F, f.size ≤ 1000000) ∧ (∀ f ∈ F, filterB f = true) ∧ FSorted F) : DInv (dSetF D id F) := by
  refine ⟨by simp [dSetF]; exact h.len, ?_, ?_⟩
  · intro x hx
    obtain ⟨x0, hx0, rfl⟩ := List.mem_map.1 hx
    have hX := h.xs x0 hx0
    split
    · rename_i e
      have e' : x0.1 = id := by simpa using e
      obtain ⟨f1, f2, f3, f4⟩ := hF x0 hx0 e'
      exact ⟨hX.id, f1, f2, f3, f4, hX.ms, hX.ml, hX.mr⟩
    · exact hX
  · unfold dSetF
    rw [List.pairwise_map]
    refine h.sorted.imp ?_
    intro a b hab
    split <;> split <;> exact hab
theorem dfind_unique {D : List D1} (h : D.Pairwise fun a b => a.1 < b.1) {id : Int} {x y : D1} (hf : D.find? (fun x => x.1 == id) = some x) (hy : y ∈ D) (e : y.1 = id) : y = x := by
  have hx := List.mem_of_find?_eq_some hf
  have hxe : x.1 = id := by have := List.find?_some hf; simpa using this
  clear hf
  induction D with
  | nil => simp at hy
  | cons a r ih =>
    rw [List.pairwise_cons] at h
    rcases List.mem_cons.1 hx with rfl | hx1 <;> rcases List.mem_cons.1 hy with rfl | hy1
    · rfl
    · have := h.1 _ hy1; omega
    · have := h.1 _ hx1; omega
    · exact ih h.2 hy1 hx1
theorem dAsk_inv {D : List D1} (h : DInv D) (id : Int) (f : ByteArray) (on : Bool) (hf : f.size ≤ 1000000) : DInv (dAsk D id f on).2 := by
  unfold dAsk
  cases hfi : D.find? fun x => x.1 == id with
  | none => exact h
  | some x =>
    have hX := h.xs x (List.mem_of_find?_eq_some hfi)
    simp only
    split
    · exact h
    · rename_i hff
      split
      · split
        · exact h
        · rename_i hh
          split
          · exact h
          · rename_i h8
            refine dSetF_inv h id _ fun y hy e => ?_
            have hnm : f ∉ x.2.1 := hasB_not.1 (by simpa using hh)
            refine ⟨by rw [insF_length]; omega, ?_, ?_, FSorted.ins hX.fo hnm⟩
            · intro g hg
              rcases mem_insF.1 hg with rfl | hg
              · exact hf
              · exact hX.fs g hg
            · intro g hg
              rcases mem_insF.1 hg with rfl | hg
              · simpa using hff
              · exact hX.ff g hg
      · split
        · exact h
        · refine dSetF_inv h id _ fun y hy e => ?_
          refine ⟨Nat.le_trans (List.length_filter_le _ _) hX.fl, fun g hg => hX.fs g (List.mem_filter.1 hg).1, fun g hg => hX.ff g (List.mem_filter.1 hg).1, FSorted.filter hX.fo _⟩
def dSetM (D : List D1) (id : Int) (M : List Mk) : List D1 := D.map fun x => if x.1 == id then (x.1, x.2.1, M) else x
theorem dSetM_inv {D : List D1} (h : DInv D) (id : Int) (M : List Mk) (hM : M.Pairwise (fun a b => a.1 < b.1) ∧ M.length ≤ 32 ∧ ∀ m ∈ M, 0 ≤ m.1 ∧ m.1 ≤ maxNum ∧ 1 ≤ m.2 ∧ m.2 ≤ maxNum) : DInv (dSetM D id M) := by
  refine ⟨by simp [dSetM]; exact h.len, ?_, ?_⟩
  · intro x hx
    obtain ⟨x0, hx0, rfl⟩ := List.mem_map.1 hx
    have hX := h.xs x0 hx0
    split
    · exact ⟨hX.id, hX.fl, hX.fs, hX.ff, hX.fo, hM.1, hM.2.1, hM.2.2⟩
    · exact hX
  · unfold dSetM
    rw [List.pairwise_map]
    refine h.sorted.imp ?_
    intro a b hab
    split <;> split <;> exact hab
theorem sortL_pairwise {last : Int} {ms : List Mk} (h : sortL last ms = true) : ms.Pairwise (fun a b => a.1 < b.1) ∧ ∀ m ∈ ms, last < m.1 := by
  induction ms generalizing last with
  | nil => simp
  | cons a r ih =>
    unfold sortL at h
    split at h
    · cases h
    · rename_i hn
      have ha : last < a.1 := by simp only [not_or, Int.not_le] at hn; exact hn.1
      obtain ⟨i1, i2⟩ := ih h
      refine ⟨List.pairwise_cons.2 ⟨i2, i1⟩, ?_⟩
      intro m hm
      rcases List.mem_cons.1 hm with rfl | hm
      · exact ha
      · have := i2 m hm; omega
theorem sortB_facts {ms : List Mk} (h : sortB ms = true) : ms.Pairwise (fun a b => a.1 < b.1) ∧ ms.length ≤ 32 ∧ ∀ m ∈ ms, 0 ≤ m.1 ∧ m.1 ≤ maxNum ∧ 1 ≤ m.2 ∧ m.2 ≤ maxNum := by
  simp only [sortB, Bool.and_eq_true, decide_eq_true_eq] at h
  exact ⟨(sortL_pairwise h.1).1, h.2, sortL_wf h.1 (by omega)⟩
theorem ecut_facts (s : ByteArray) (a : Int) : (ecut s a).1.Pairwise (fun a b => a.1 < b.1) ∧ (ecut s a).1.length ≤ 32 ∧ ∀ m ∈ (ecut s a).1, 0 ≤ m.1 ∧ m.1 ≤ maxNum ∧ 1 ≤ m.2 ∧ m.2 ≤ maxNum := by
  unfold ecut
  simp only
  split
  · simp
  · split
    · simp
    · split
      · simp
      · rename_i h; exact sortB_facts (by simpa using h)
theorem vcut_size (s : ByteArray) (a : Int) : (vcut s a).1.size ≤ 65536 := by
  unfold vcut
  have h := vget_ok s a
  split
  · simp [ByteArray.size]
  · split
    · simp [ByteArray.size]
    · split
      · simp [ByteArray.size]
      · rw [ByteArray.size_extract]; omega
theorem Step.trans {w w1 w2 : World} {bd bm : Nat} {L : List G} {D2 : List D1} (h : Step w bd bm L w1 D2) {D3 : List D1} (k : ∀ L1, DevAt w1 bd bm L1 → ab L1 = D2 → Step w1 bd bm L1 w2 D3) : Step w bd bm L w2 D3 := by
  obtain ⟨L1, h1, rfl, h3, h4⟩ := h
  obtain ⟨L2, k1, rfl, k3, k4⟩ := k L1 h1 rfl
  refine ⟨L2, k1, rfl, ?_, h4.trans k4 ?_⟩
  · intro i hi
    rcases k3 i hi with hi | hi
    · rcases h3 i hi with hi | hi
      · exact .inl hi
      · exact .inr hi
    · exact .inr (Nat.le_trans h4.size hi)
  · intro i hi hf
    rcases h3 i hf with h | h
    · exact h
    · omega
theorem Step.turn {w w1 w2 : World} {bd bm : Nat} {L : List G} {D2 : List D1} (h : Step w bd bm L w1 D2) (hb : Below w1.heap.size w1 w2) : Step w bd bm L w2 D2 :=
  h.trans fun L1 h1 e => by rw [← e]; exact step_refl h1 hb
end Go.Proofs.YtjabhhpmofodlaaGreatDoor
