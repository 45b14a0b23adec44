/- The order of filters, plain. -/
import Derived.Test.YtjabhhpmofodlaaGreatDoorC2
namespace Go.Proofs.YtjabhhpmofodlaaGreatDoor
set_option linter.unusedVariables false
set_option linter.unusedSimpArgs false
theorem bl_irrefl (a : List UInt8) : Op.bytesLess a a = false := by
  induction a with
  | nil => rfl
  | cons x r ih => simp [Op.bytesLess, ih]
theorem bl_trans (a b c : List UInt8) (h1 : Op.bytesLess a b = true) (h2 : Op.bytesLess b c = true) : Op.bytesLess a c = true := by
  induction a generalizing b c with
  | nil => cases b <;> cases c <;> simp_all [Op.bytesLess]
  | cons x r ih =>
    cases b with
    | nil => simp [Op.bytesLess] at h1
    | cons y s =>
      cases c with
      | nil => simp [Op.bytesLess] at h2
      | cons z t =>
        simp only [Op.bytesLess, Bool.or_eq_true, decide_eq_true_eq, Bool.and_eq_true, beq_iff_eq] at *
        rcases h1 with h1 | ⟨rfl, h1⟩ <;> rcases h2 with h2 | ⟨rfl, h2⟩
        · exact .inl (UInt8.lt_trans h1 h2)
        · exact .inl h1
        · exact .inl h2
        · exact .inr ⟨rfl, ih _ _ h1 h2⟩
theorem bl_total (a b : List UInt8) (h1 : Op.bytesLess a b = false) (h2 : a ≠ b) : Op.bytesLess b a = true := by
  induction a generalizing b with
  | nil => cases b <;> simp_all [Op.bytesLess]
  | cons x r ih =>
    cases b with
    | nil => rfl
    | cons y s =>
      simp only [Op.bytesLess, Bool.or_eq_false_iff, decide_eq_false_iff_not, Bool.and_eq_false_iff, Bool.or_eq_true, decide_eq_true_eq, Bool.and_eq_true, beq_iff_eq] at *
      by_cases hxy : y < x
      · exact .inl hxy
      · have e : y = x := by
          have h3 := h1.1
          apply UInt8.toNat_inj.1
          simp only [UInt8.lt_iff_toNat_lt] at *; omega
        subst e
        refine .inr ⟨rfl, ih s ?_ (fun e => h2 (by rw [e]))⟩
        rcases h1.2 with h | h
        · simp at h
        · exact h
theorem ba_inj {x y : ByteArray} (h : x.toList = y.toList) : x = y := by
  rw [ByteArray.toList_eq, ByteArray.toList_eq] at h
  cases x; cases y
  simp at h
  rw [h]
theorem sCmp_zero {x y : ByteArray} : sCmp x y = 0 ↔ x = y := by
  unfold sCmp sLess
  constructor
  · intro h
    split at h
    · simp at h
    · split at h
      · rename_i he; exact ba_inj (by simpa using he)
      · simp at h
  · rintro rfl
    rw [bl_irrefl]; simp
theorem sCmp_neg {x y : ByteArray} : sCmp y x = - sCmp x y := by
  unfold sCmp sLess
  by_cases e : x = y
  · subst e; rw [bl_irrefl]; simp
  · have hne : x.toList ≠ y.toList := fun h => e (ba_inj h)
    have h1 : (x.toList == y.toList) = false := by simpa using hne
    have h2 : (y.toList == x.toList) = false := by simpa using hne.symm
    rw [h1, h2]
    cases hl : Op.bytesLess x.toList y.toList with
    | true =>
      have : Op.bytesLess y.toList x.toList = false := by
        cases hr : Op.bytesLess y.toList x.toList with
        | false => rfl
        | true => have := bl_trans _ _ _ hl hr; rw [bl_irrefl] at this; cases this
      rw [this]; simp
    | false => rw [bl_total _ _ hl hne]; simp
theorem sCmp_lt {x y : ByteArray} : sCmp x y < 0 ↔ sLess x y = true := by
  unfold sCmp
  cases sLess x y with
  | true => simp
  | false =>
    simp only [Bool.false_eq_true, iff_false, if_false]
    split <;> simp
theorem sCmp_trans {x y z : ByteArray} (h1 : sCmp x y < 0) (h2 : sCmp y z < 0) : sCmp x z < 0 := by
  rw [sCmp_lt] at *
  exact bl_trans _ _ _ h1 h2
theorem cmpL_zero {a b : List ByteArray} : cmpL a b = 0 ↔ a = b := by
  induction a generalizing b with
  | nil => cases b <;> simp [cmpL]
  | cons x r ih =>
    cases b with
    | nil => simp [cmpL]
    | cons y t =>
      unfold cmpL
      by_cases h : sCmp x y = 0
      · have := sCmp_zero.1 h
        subst this
        simp [h, ih]
      · have hne : x ≠ y := fun e => h (sCmp_zero.2 e)
        simp [h, hne]
theorem cmpL_neg {a b : List ByteArray} : cmpL b a = - cmpL a b := by
  induction a generalizing b with
  | nil => cases b <;> simp [cmpL]
  | cons x r ih =>
    cases b with
    | nil => simp [cmpL]
    | cons y t =>
      unfold cmpL
      have := sCmp_neg (x := x) (y := y)
      by_cases h : sCmp x y = 0
      · simp [h, this, ih]
      · have h' : sCmp y x ≠ 0 := by omega
        simp [h, h', this]
theorem cmpL_trans {a b c : List ByteArray} (h1 : cmpL a b < 0) (h2 : cmpL b c < 0) : cmpL a c < 0 := by
  induction a generalizing b c with
  | nil =>
    cases c with
    | nil => cases b <;> simp [cmpL] at *
    | cons z u => simp [cmpL]
  | cons x r ih =>
    cases b with
    | nil => simp [cmpL] at h1
    | cons y t =>
      cases c with
      | nil => simp [cmpL] at h2
      | cons z u =>
        unfold cmpL at h1 h2 ⊢
        by_cases hxy : sCmp x y = 0
        · have e := sCmp_zero.1 hxy
          subst e
          simp only [hxy, bne_self_eq_false, Bool.false_eq_true, if_false] at h1
          by_cases hyz : sCmp x z = 0
          · simp only [hyz, bne_self_eq_false, Bool.false_eq_true, if_false] at h2 ⊢
            exact ih h1 h2
          · simp [hyz] at h2 ⊢; exact h2
        · simp [hxy] at h1
          by_cases hyz : sCmp y z = 0
          · have e := sCmp_zero.1 hyz
            subst e
            simp [hxy]; exact h1
          · simp [hyz] at h2
            have := sCmp_trans h1 h2
            have hne : sCmp x z ≠ 0 := by omega
            simp [hne]; exact this
def unlv : List (List UInt8) → List UInt8
  | [] => []
  | [a] => a
  | a :: r => a ++ 47 :: unlv r
theorem unlv_lv (l : List UInt8) : unlv (lv l) = l := by
  induction l with
  | nil => rfl
  | cons c r ih =>
    unfold lv
    have hne := lv_ne r
    split
    · rename_i hc
      subst hc
      cases hr : lv r with
      | nil => exact absurd hr hne
      | cons a s => rw [hr] at ih; simp [unlv, ih]
    · cases hr : lv r with
      | nil => exact absurd hr hne
      | cons a s =>
        rw [hr] at ih
        simp only [List.headD_cons, List.tail_cons]
        cases s with
        | nil => simp [unlv] at *; exact ih
        | cons b u => simp [unlv] at *; exact ih
theorem levels_inj {a b : ByteArray} (h : levels a = levels b) : a = b := by
  unfold levels at h
  have h2 := congrArg (List.map fun x : ByteArray => x.data.toList) h
  simp only [List.map_map] at h2
  have e : ((fun x : ByteArray => x.data.toList) ∘ str) = id := by funext l; simp [str]
  rw [e, List.map_id, List.map_id] at h2
  have := congrArg unlv h2
  rw [unlv_lv, unlv_lv] at this
  cases a; cases b
  simp at this
  rw [this]
theorem fCmp_zero {a b : ByteArray} : fCmp a b = 0 ↔ a = b := by
  unfold fCmp
  rw [cmpL_zero]
  exact ⟨levels_inj, fun e => by rw [e]⟩
theorem fCmp_neg {a b : ByteArray} : fCmp b a = - fCmp a b := cmpL_neg
theorem fCmp_trans {a b c : ByteArray} (h1 : fCmp a b < 0) (h2 : fCmp b c < 0) : fCmp a c < 0 := cmpL_trans h1 h2
/-! ### rows in order -/
def FSorted (F : List ByteArray) : Prop := F.Pairwise fun a b => fCmp a b < 0
def insF (f : ByteArray) : List ByteArray → List ByteArray
  | [] => [f]
  | x :: r => if fCmp x f < 0 then x :: insF f r else f :: x :: r
theorem insF_eq {F : List ByteArray} {f : ByteArray} {i : Nat} (hi : i ≤ F.length) (h1 : ∀ k (h : k < F.length), k < i → fCmp F[k] f < 0) (h2 : ∀ k (h : k < F.length), i ≤ k → 0 ≤ fCmp F[k] f) : F.take i ++ f :: F.drop i = insF f F := by
  induction F generalizing i with
  | nil => simp [insF]
  | cons x r ih =>
    unfold insF
    cases i with
    | zero =>
      have := h2 0 (by simp) (Nat.le_refl _)
      simp at this
      rw [if_neg (by omega)]; rfl
    | succ i =>
      have := h1 0 (by simp) (by omega)
      simp at this
      rw [if_pos this]
      simp only [List.take_succ_cons, List.drop_succ_cons, List.cons_append, List.cons.injEq, true_and]
      exact ih (by simpa using hi) (fun k h hk => by have := h1 (k + 1) (by simpa using h) (by omega); simpa using this) (fun k h hk => by have := h2 (k + 1) (by simpa using h) (by omega); simpa using this)
theorem mem_insF {f x : ByteArray} {F : List ByteArray} : x ∈ insF f F ↔ x = f ∨ x ∈ F := by
  induction F with
  | nil => simp [insF]
  | cons y r ih => unfold insF; split <;> simp [ih]; grind
theorem FSorted.ins {F : List ByteArray} {f : ByteArray} (h : FSorted F) (hf : f ∉ F) : FSorted (insF f F) := by
  induction F with
  | nil => simp [insF, FSorted]
  | cons y r ih =>
    unfold FSorted at *
    unfold insF
    rw [List.pairwise_cons] at h
    split
    · rename_i hl
      rw [List.pairwise_cons]
      refine ⟨?_, ih h.2 fun hm => hf (by simp [hm])⟩
      intro p hp
      rcases mem_insF.1 hp with rfl | hp
      · exact hl
      · exact h.1 p hp
    · rename_i hl
      have hne : y ≠ f := fun e => hf (by simp [e])
      have h0 : fCmp y f ≠ 0 := fun e => hne (fCmp_zero.1 e)
      have hn := fCmp_neg (a := y) (b := f)
      have hfy : fCmp f y < 0 := by omega
      simp only [List.pairwise_cons, List.mem_cons]
      refine ⟨?_, h.1, h.2⟩
      rintro p (rfl | hp)
      · exact hfy
      · exact fCmp_trans hfy (h.1 p hp)
theorem FSorted.get {F : List ByteArray} (h : FSorted F) {a b : Nat} (hab : a < b) (hb : b < F.length) : fCmp (F[a]'(by omega)) F[b] < 0 := List.pairwise_iff_getElem.1 h a b _ hb hab
theorem search_mono {F : List ByteArray} (h : FSorted F) (f : ByteArray) : ∀ a b (hab : a ≤ b) (hb : b < F.length), fCmp F[b] f < 0 → fCmp (F[a]'(by omega)) f < 0 := by
  intro a b hab hb hlt
  by_cases e : a = b
  · subst e; exact hlt
  · exact fCmp_trans (h.get (by omega) hb) hlt
def hasB (f : ByteArray) (F : List ByteArray) : Bool := F.any fun x => decide (x = f)
theorem hasB_iff {f : ByteArray} {F : List ByteArray} : hasB f F = true ↔ f ∈ F := by simp [hasB]
theorem hasB_not {f : ByteArray} {F : List ByteArray} : hasB f F = false ↔ f ∉ F := by rw [← hasB_iff]; simp
theorem search_mem {F : List ByteArray} (h : FSorted F) {f : ByteArray} {i : Nat} (hi : i ≤ F.length) (h1 : ∀ k (h : k < F.length), k < i → fCmp F[k] f < 0) (h2 : ∀ k (h : k < F.length), i ≤ k → 0 ≤ fCmp F[k] f) :
    (match F[i]? with | some x => fCmp x f == 0 | none => false) = hasB f F := by
  by_cases hm : f ∈ F
  · obtain ⟨j, hj, e⟩ := List.getElem_of_mem hm
    have hz : fCmp F[j] f = 0 := by rw [e, fCmp_zero]
    have hij : i ≤ j := Nat.le_of_not_lt fun hlt => by have := h1 j hj hlt; omega
    have hji : j ≤ i := Nat.le_of_not_lt fun hlt => by
      have a1 := h.get hlt hj
      have a2 := h2 i (by omega) (Nat.le_refl _)
      rw [e] at a1
      omega
    obtain rfl : i = j := by omega
    rw [List.getElem?_eq_getElem hj, hasB_iff.2 hm]
    simp [hz]
  · cases hx : F[i]? with
    | none => rw [hasB_not.2 hm]
    | some x =>
      obtain ⟨hj, e⟩ := List.getElem?_eq_some_iff.1 hx
      have : fCmp x f ≠ 0 := fun e2 => hm (by rw [← fCmp_zero.1 e2, ← e]; simp)
      rw [hasB_not.2 hm]; simp [this]
theorem erase_eq {F : List ByteArray} (h : FSorted F) {f : ByteArray} {i : Nat} (hi : i < F.length) (e : F[i] = f) : F.eraseIdx i = F.filter fun x => decide (x ≠ f) := by
  induction F generalizing i with
  | nil => simp at hi
  | cons y r ih =>
    have h' := h
    unfold FSorted at h
    rw [List.pairwise_cons] at h
    cases i with
    | zero =>
      simp only [List.getElem_cons_zero] at e
      subst e
      have hr : r.filter (fun x => decide (x ≠ y)) = r := by
        rw [List.filter_eq_self]
        intro x hx
        have := h.1 x hx
        simp only [decide_eq_true_eq]
        rintro rfl
        rw [fCmp_zero.2 rfl] at this; omega
      rw [List.filter_cons]
      simp only [List.eraseIdx_zero, List.tail_cons, ne_eq, not_true_eq_false, decide_false, Bool.false_eq_true, if_false]
      exact hr.symm
    | succ i =>
      simp only [List.getElem_cons_succ] at e
      have hi' : i < r.length := by simpa using hi
      have hne : y ≠ f := by
        rintro rfl
        have := h.1 r[i] (by simp)
        rw [e, fCmp_zero.2 rfl] at this; omega
      simp [hne, ih h.2 hi' e]
theorem FSorted.filter {F : List ByteArray} (h : FSorted F) (p : ByteArray → Bool) : FSorted (F.filter p) := List.Pairwise.filter _ h
theorem insF_length (f : ByteArray) (F : List ByteArray) : (insF f F).length = F.length + 1 := by
  induction F with
  | nil => rfl
  | cons y r ih => unfold insF; split <;> simp [ih]
end Go.Proofs.YtjabhhpmofodlaaGreatDoor
