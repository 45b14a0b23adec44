/- Devices as one state: for the laws. -/
import Derived.Test.YtjabhhpmofodlaaGreatDoorG11
import Derived.Test.YtjabhhpmofodlaaGreatDoorG12
import Derived.Test.YtjabhhpmofodlaaGreatDoorK1
namespace Go.Proofs.YtjabhhpmofodlaaGreatDoor
open Go.RowKit
set_option linter.unusedVariables false
set_option linter.unusedSimpArgs false
/-- In w the pointer bd reads as the devices D; all that they may write lies from block B on. -/
def St (B : Nat) (w : World) (bd bm : Nat) (D : List D1) : Prop := ∃ L, DevAt w bd bm L ∧ ab L = D ∧ (∀ i, foot bm L i → B ≤ i) ∧ DInv D
theorem St.below {B : Nat} {w w' : World} {bd bm : Nat} {D : List D1} (h : St B w bd bm D) (hb : Below w.heap.size w w') : St B w' bd bm D := by
  obtain ⟨L, h1, h2, h3, h4⟩ := h
  exact ⟨L, h1.below hb, h2, h3, h4⟩
theorem St.inv {B : Nat} {w : World} {bd bm : Nat} {D : List D1} (h : St B w bd bm D) : DInv D := by obtain ⟨L, _, _, _, h⟩ := h; exact h
/-- What a call on devices keeps: all below B, and every block that is not a map's or a row of slices and maps. -/
structure Kp (B : Nat) (w w' : World) : Prop where
  below : Below B w w'
  keep : ∀ i, i < w.heap.size → ¬ Dull w i → w'.heap[i]? = w.heap[i]?
theorem dull_same {w w' : World} {i : Nat} (h : w'.heap[i]? = w.heap[i]?) : Dull w' i ↔ Dull w i := by
  unfold Dull
  have : ∀ j, w'.cell? ⟨i, j, none⟩ = w.cell? ⟨i, j, none⟩ := fun j => World.cell?_of_block (a := ⟨i, j, none⟩) h
  simp only [this]
theorem Kp.refl (B : Nat) (w : World) : Kp B w w := ⟨Below.refl _ _, fun _ _ _ => rfl⟩
theorem Kp.trans {B : Nat} {a b c : World} (h : Kp B a b) (k : Kp B b c) : Kp B a c :=
  ⟨h.below.trans k.below, fun i hi hd => by
    have h1 := h.keep i hi hd
    exact (k.keep i (Nat.lt_of_lt_of_le hi h.below.size) (fun hd2 => hd ((dull_same h1).1 hd2))).trans h1⟩
theorem Kp.of {B : Nat} {w w' : World} (h : Below w.heap.size w w') (hB : B ≤ w.heap.size) : Kp B w w' := ⟨h.mono hB, fun i hi _ => h.block i hi⟩
theorem Kp.size {B : Nat} {w w' : World} (h : Kp B w w') : w.heap.size ≤ w'.heap.size := h.below.size
theorem Kp.cell {B : Nat} {w w' : World} (h : Kp B w w') {b j : Nat} {u : Value} (hc : w.cell? ⟨b, j, none⟩ = some u) (hd : ¬ Dull w b) : w'.cell? ⟨b, j, none⟩ = some u :=
  (World.cell?_of_block (a := ⟨b, j, none⟩) (h.keep b (World.block_lt_of_cell? w _ hc) hd)).trans hc
theorem not_dull_int {w : World} {b j : Nat} {k : IntKind} {n : Int} (h : w.cell? ⟨b, j, none⟩ = some (.int k n)) : ¬ Dull w b := fun hd => by have := hd j _ h; simp at this
theorem not_dull_str {w : World} {b j : Nat} {s : ByteArray} (h : w.cell? ⟨b, j, none⟩ = some (.string s)) : ¬ Dull w b := fun hd => by have := hd j _ h; simp at this
theorem St.step {B : Nat} {w w' : World} {bd bm : Nat} {L : List G} {D' : List D1} (hf : ∀ i, foot bm L i → B ≤ i) (hB : B ≤ w.heap.size) (hs : Step w bd bm L w' D') (hI : DInv D') (hD : DevAt w bd bm L) : St B w' bd bm D' ∧ Kp B w w' := by
  obtain ⟨L', h1, h2, h3, h4⟩ := hs
  refine ⟨⟨L', h1, h2, ?_, hI⟩, h4.below hB fun i hi hfi => by have := hf i hfi; omega, fun i hi hd => h4.block i hi fun hfi => hd (hD.dull i hfi)⟩
  intro i hi
  rcases h3 i hi with h | h
  · exact hf i h
  · omega
theorem lenL {L : List G} {D : List D1} (h : ab L = D) (hI : DInv D) : L.length ≤ 16 := by
  have := hI.len
  rw [← h] at this
  simpa [ab] using this
theorem join_st {B : Nat} {w : World} {bd bm : Nat} {D : List D1} (h : St B w bd bm D) (hB : B ≤ w.heap.size) (id : Int) :
    Calls Tryz.prog 23 #[.pointer (some ⟨bd, 0, none⟩), .int .i64 id] w fun e w' => e = .returned (.int .i64 (dJoin D id).1) ∧ St B w' bd bm (dJoin D id).2 ∧ Kp B w w' := by
  obtain ⟨L, h1, rfl, h3, h4⟩ := h
  refine (join_any id bd bm L w h1 (by have := lenL rfl h4; omega)).mono ?_
  rintro e w' ⟨rfl, hs⟩
  exact ⟨rfl, St.step h3 hB hs (dJoin_inv h4 id) h1⟩
theorem leave_st {B : Nat} {w : World} {bd bm : Nat} {D : List D1} (h : St B w bd bm D) (hB : B ≤ w.heap.size) (id : Int) (hid : -9223372036854775808 ≤ id ∧ id ≤ 9223372036854775807) :
    Calls Tryz.prog 24 #[.pointer (some ⟨bd, 0, none⟩), .int .i64 id] w fun e w' => e = .returned (.int .i64 (dLeave D id).1) ∧ St B w' bd bm (dLeave D id).2 ∧ Kp B w w' := by
  obtain ⟨L, h1, rfl, h3, h4⟩ := h
  refine (leave_any id bd bm L w h1 hid).mono ?_
  rintro e w' ⟨rfl, hs⟩
  exact ⟨rfl, St.step h3 hB hs (dLeave_inv h4 id) h1⟩
theorem ask_st {B : Nat} {w : World} {bd bm : Nat} {D : List D1} (h : St B w bd bm D) (hB : B ≤ w.heap.size) (id : Int) (f : ByteArray) (on : Bool) (hid : -9223372036854775808 ≤ id ∧ id ≤ 9223372036854775807) (hf : f.size ≤ 1000000) :
    Calls Tryz.prog 25 #[.pointer (some ⟨bd, 0, none⟩), .int .i64 id, .string f, .bool on] w fun e w' => e = .returned (.int .i64 (dAsk D id f on).1) ∧ St B w' bd bm (dAsk D id f on).2 ∧ Kp B w w' := by
  obtain ⟨L, h1, rfl, h3, h4⟩ := h
  refine (ask_any id f on bd bm L w h1 hid h4 hf).mono ?_
  rintro e w' ⟨rfl, hs⟩
  exact ⟨rfl, St.step h3 hB hs (dAsk_inv h4 id f on hf) h1⟩
theorem insM_mem {x p : Mk} {M : List Mk} : p ∈ insM x M ↔ p = x ∨ p ∈ M := by
  induction M with
  | nil => simp [insM]
  | cons y r ih => unfold insM; split <;> simp [ih]; grind
theorem insM_length (x : Mk) (M : List Mk) : (insM x M).length = M.length + 1 := by
  induction M with
  | nil => rfl
  | cons y r ih => unfold insM; split <;> simp [ih]
theorem insM_sorted {x : Mk} {M : List Mk} (h : M.Pairwise fun a b => a.1 < b.1) (hx : ∀ p ∈ M, p.1 ≠ x.1) : (insM x M).Pairwise fun a b => a.1 < b.1 := by
  induction M with
  | nil => simp [insM]
  | cons y r ih =>
    unfold insM
    rw [List.pairwise_cons] at h
    split
    · rename_i hl
      simp only [List.pairwise_cons, List.mem_cons]
      refine ⟨?_, h.1, h.2⟩
      rintro p (rfl | hp)
      · exact hl
      · have := h.1 p hp; omega
    · rename_i hl
      rw [List.pairwise_cons]
      refine ⟨?_, ih h.2 fun p hp => hx p (by simp [hp])⟩
      intro p hp
      rcases insM_mem.1 hp with rfl | hp
      · have := hx y (by simp); omega
      · exact h.1 p hp
theorem mfind_none {M : List Mk} {o : Int} (h : (mfind M o).isSome = false) : M.filter (fun m => !(m.1 == o)) = M := by
  rw [List.filter_eq_self]
  intro m hm
  unfold mfind at h
  simp only [Option.isSome_map] at h
  have : M.find? (fun m => m.1 == o) = none := by simpa using h
  rw [List.find?_eq_none] at this
  simpa using this m hm
theorem mfind_some_length {M : List Mk} {o : Int} (h : (mfind M o).isSome = true) : (M.filter fun m => !(m.1 == o)).length + 1 ≤ M.length := by
  unfold mfind at h
  rw [Option.isSome_map, List.find?_isSome] at h
  obtain ⟨m, hm, he⟩ := h
  induction M with
  | nil => simp at hm
  | cons y r ih =>
    rw [List.filter_cons]
    rcases List.mem_cons.1 hm with rfl | hm
    · rw [he]
      simp only [Bool.not_true, Bool.false_eq_true, if_false, List.length_cons]
      have := List.length_filter_le (fun m : Mk => !(m.1 == o)) r
      omega
    · have := ih hm
      split <;> simp <;> omega
theorem upd_inv {x : D1} (h : XInv x) (e : Ev) (he : evRight e = true) : XInv (upd e x) := by
  unfold upd
  split
  · rename_i ht
    simp only [evRight, inB, Bool.and_eq_true, decide_eq_true_eq] at he
    simp only [takesB, Bool.and_eq_true, Bool.or_eq_true, decide_eq_true_eq] at ht
    refine ⟨h.id, h.fl, h.fs, h.ff, h.fo, ?_, ?_, ?_⟩
    · refine insM_sorted (h.ms.filter _) ?_
      intro p hp
      simpa using (List.mem_filter.1 hp).2
    · show (insM _ _).length ≤ 32
      rw [insM_length]
      have hl := h.ml
      rcases ht.2 with h1 | h1
      · have := mfind_some_length h1; omega
      · have := List.length_filter_le (fun m : Mk => !(m.1 == e.o)) x.2.2
        omega
    · intro m hm
      rcases insM_mem.1 hm with rfl | hm
      · exact ⟨he.1.1.1.1.1, he.1.1.1.1.2, he.1.1.1.2.1, he.1.1.1.2.2⟩
      · exact h.mr m (List.mem_filter.1 hm).1
  · exact h
theorem upd_id (e : Ev) (x : D1) : (upd e x).1 = x.1 := by unfold upd; split <;> rfl
theorem dOffer_inv {D : List D1} (h : DInv D) (e : Ev) : DInv (dOffer D e).2 := by
  unfold dOffer
  split
  · rename_i hc
    refine ⟨by simp; exact h.len, ?_, ?_⟩
    · intro x hx
      obtain ⟨y, hy, rfl⟩ := List.mem_map.1 hx
      exact upd_inv (h.xs y hy) e hc.1
    · show (D.map (upd e)).Pairwise _
      rw [List.pairwise_map]
      refine h.sorted.imp ?_
      intro a b hab
      rw [upd_id, upd_id]; exact hab
  · exact h
theorem offer_st {B : Nat} {w : World} {bd bm : Nat} {D : List D1} (h : St B w bd bm D) (hB : B ≤ w.heap.size) (e : Ev) (het : e.t.size ≤ 1000000000) :
    Calls Tryz.prog 26 #[.pointer (some ⟨bd, 0, none⟩), evV e] w fun r w' => (∃ v, r = .returned v ∧ OwnI w' w.heap.size v (dOffer D e).1) ∧ St B w' bd bm (dOffer D e).2 ∧ Kp B w w' := by
  obtain ⟨L, h1, rfl, h3, h4⟩ := h
  refine (offer_any e bd bm L w h1 h4 het).mono ?_
  rintro r w' ⟨hr, hs⟩
  exact ⟨hr, St.step h3 hB hs (dOffer_inv h4 e) h1⟩
theorem ids_st {B : Nat} {w : World} {bd bm : Nat} {D : List D1} (h : St B w bd bm D) :
    Calls Tryz.prog 33 #[.pointer (some ⟨bd, 0, none⟩)] w fun e w' => (∃ v, e = .returned v ∧ OwnI w' w.heap.size v (dIds D)) ∧ Below w.heap.size w w' := by
  obtain ⟨L, h1, rfl, h3, h4⟩ := h
  exact ids_any bd bm L w h1 (by have := lenL rfl h4; omega)
theorem filters_st {B : Nat} {w : World} {bd bm : Nat} {D : List D1} (h : St B w bd bm D) (id : Int) (hid : -9223372036854775808 ≤ id ∧ id ≤ 9223372036854775807) :
    Calls Tryz.prog 22 #[.pointer (some ⟨bd, 0, none⟩), .int .i64 id] w fun e w' => (∃ v, e = .returned v ∧ OwnS w' w.heap.size v (dFil D id)) ∧ Below w.heap.size w w' := by
  obtain ⟨L, h1, rfl, h3, h4⟩ := h
  exact filters_any id bd bm L w h1 hid fun x hx => by have := (h4.xs _ (ab_mem hx)).fl; simp only at this; omega
theorem marks_st {B : Nat} {w : World} {bd bm : Nat} {D : List D1} (h : St B w bd bm D) (id : Int) (hid : -9223372036854775808 ≤ id ∧ id ≤ 9223372036854775807) :
    Calls Tryz.prog 21 #[.pointer (some ⟨bd, 0, none⟩), .int .i64 id] w fun e w' => (∃ v, e = .returned v ∧ OwnM w' w.heap.size v (dMarks D id)) ∧ Below w.heap.size w w' := by
  obtain ⟨L, h1, rfl, h3, h4⟩ := h
  exact dmarks_any id bd bm L w h1 hid h4
theorem save_st {B : Nat} {w : World} {bd bm : Nat} {D : List D1} (h : St B w bd bm D) :
    Calls Tryz.prog 17 #[.pointer (some ⟨bd, 0, none⟩)] w fun e w' => e = .returned (.string (dSave D)) ∧ Below w.heap.size w w' := by
  obtain ⟨L, h1, rfl, h3, h4⟩ := h
  exact save_any bd bm L w h1 h4
theorem new_st (w : World) : Calls Tryz.prog 20 #[] w fun e w' => (∃ bd bm, e = .returned (.pointer (some ⟨bd, 0, none⟩)) ∧ St w.heap.size w' bd bm []) ∧ Below w.heap.size w w' := by
  refine (new_any w).mono ?_
  rintro e w' ⟨⟨bd, bm, rfl, h1, h2, h3⟩, hb⟩
  refine ⟨⟨bd, bm, rfl, [], h3, rfl, ?_, dInv_nil⟩, hb⟩
  rintro i (rfl | ⟨x, hx, _⟩)
  · exact h2
  · simp at hx
/-- Another one's steps leave devices alone that lie apart. -/
theorem St.apart {B N : Nat} {w w' : World} {bd bm bd2 bm2 : Nat} {D D2 : List D1} (h : St B w bd bm D) (h2 : St N w bd2 bm2 D2) (hlt : bd < N ∧ ∀ L, DevAt w bd bm L → ab L = D → (∀ i, foot bm L i → B ≤ i) → ∀ i, foot bm L i → i < N) (hT : ∀ L, DevAt w bd2 bm2 L → (∀ i, foot bm2 L i → N ≤ i) → Turn (foot bm2 L) w w') : St B w' bd bm D := by
  obtain ⟨L, a1, a2, a3, a4⟩ := h
  obtain ⟨L2, b1, b2, b3, b4⟩ := h2
  have ht := hT L2 b1 b3
  exact ⟨L, a1.turn ht b1.dull (fun hf => by have := b3 _ hf; omega) (fun i hi hf => by have := b3 _ hf; have := hlt.2 L a1 a2 a3 i hi; omega), a2, a3, a4⟩
end Go.Proofs.YtjabhhpmofodlaaGreatDoor
