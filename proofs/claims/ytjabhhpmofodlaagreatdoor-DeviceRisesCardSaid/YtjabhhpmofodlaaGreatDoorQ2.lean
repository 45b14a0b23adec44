/- Devices as plain rows: what the laws ask. -/
import Derived.Test.YtjabhhpmofodlaaGreatDoorQ1
namespace Go.Proofs.YtjabhhpmofodlaaGreatDoor
set_option linter.unusedVariables false
set_option linter.unusedSimpArgs false
theorem find_dIns {x : D1} {D : List D1} {q : D1 → Bool} (hq : q x = false) : (dIns x D).find? q = D.find? q := by
  induction D with
  | nil => simp [dIns, hq]
  | cons y r ih =>
    unfold dIns
    split
    · simp [hq]
    · rw [List.find?_cons, List.find?_cons, ih]
theorem find_leave {D : List D1} {id j : Int} (h : j ≠ id) : ((dLeave D id).2.find? fun x => x.1 == j) = D.find? fun x => x.1 == j := by
  unfold dLeave
  split
  · rw [List.find?_filter]
    congr 1
    funext a
    by_cases ha : a.1 = j
    · simp [ha, h]
    · simp [ha]
  · rfl
theorem find_join {D : List D1} {id j : Int} (h : j ≠ id) : ((dJoin D id).2.find? fun x => x.1 == j) = D.find? fun x => x.1 == j := by
  unfold dJoin
  repeat' split
  all_goals try rfl
  exact find_dIns (by simpa using Ne.symm h)
theorem find_join_self {D : List D1} {id : Int} (h : (dJoin D id).1 = 0) : ((dJoin D id).2.find? fun x => x.1 == id) = some (id, [], []) := dJoin_find h
theorem dFil_find {D D' : List D1} {j : Int} (h : (D'.find? fun x => x.1 == j) = D.find? fun x => x.1 == j) : dFil D' j = dFil D j ∧ dMarks D' j = dMarks D j := by
  unfold dFil dMarks; rw [h]; exact ⟨rfl, rfl⟩
theorem there_any (D : List D1) (id : Int) : ((dIds D).any fun x => x == id) = (D.find? fun x => x.1 == id).isSome := by
  induction D with
  | nil => rfl
  | cons y r ih =>
    simp only [dIds, List.map_cons, List.any_cons, List.find?_cons] at *
    cases hy : y.1 == id <;> simp [ih]
theorem leave_fst (D : List D1) (id : Int) : ((dLeave D id).1 == 0) = (D.find? fun x => x.1 == id).isSome := by
  unfold dLeave
  split
  · rename_i h; rw [h]; rfl
  · rename_i h; simp only [Bool.not_eq_true] at h; rw [h]; rfl
theorem leave_length {D : List D1} (h : D.Pairwise fun a b => a.1 < b.1) {id : Int} (hs : (D.find? fun x => x.1 == id).isSome = true) : (D.filter fun x => !(x.1 == id)).length + 1 = D.length := by
  induction D with
  | nil => simp at hs
  | cons y r ih =>
    rw [List.pairwise_cons] at h
    by_cases hy : y.1 = id
    · have e : r.filter (fun x => !(x.1 == id)) = r := by
        rw [List.filter_eq_self]
        intro x hx
        have := h.1 x hx
        simp; omega
      rw [List.filter_cons, e]
      simp [hy]
    · have e : (y.1 == id) = false := by simpa using hy
      rw [List.find?_cons, e] at hs
      rw [List.filter_cons, e]
      simp [ih h.2 hs]
/-- Who leaves and comes again. -/
theorem fresh_facts {D : List D1} (h : DInv D) {id : Int} (hs : (D.find? fun x => x.1 == id).isSome = true) :
    (dLeave D id).1 = 0 ∧ (dJoin (dLeave D id).2 id).1 = 0 ∧ dFil (dJoin (dLeave D id).2 id).2 id = [] ∧ dMarks (dJoin (dLeave D id).2 id).2 id = [] ∧ (dJoin (dLeave D id).2 id).2.length = D.length := by
  obtain ⟨x, hx⟩ := Option.isSome_iff_exists.1 hs
  have hm := List.mem_of_find?_eq_some hx
  have he : x.1 = id := by have := List.find?_some hx; simpa using this
  have hX := (h.xs x hm).id
  have hl := leave_length h.sorted hs
  have hlen := h.len
  have e1 : dLeave D id = (0, D.filter fun x => !(x.1 == id)) := by unfold dLeave; rw [if_pos hs]
  have hn : ((D.filter fun x => !(x.1 == id)).find? fun x => x.1 == id) = none := by
    rw [List.find?_eq_none]
    intro y hy
    have := (List.mem_filter.1 hy).2
    simpa using this
  have hj : dJoin (D.filter fun x => !(x.1 == id)) id = (0, dIns (id, [], []) (D.filter fun x => !(x.1 == id))) := by
    unfold dJoin
    rw [if_neg (by omega), hn, if_neg (by simp), if_neg (by omega)]
  have hf := find_join_self (D := D.filter fun x => !(x.1 == id)) (id := id) (by rw [hj])
  rw [e1]
  refine ⟨rfl, by rw [hj], ?_, ?_, ?_⟩
  · unfold dFil; rw [hf]
  · unfold dMarks; rw [hf]
  · rw [hj]; show (dIns _ _).length = _; rw [dIns_length]; exact hl
theorem fresh_else {D : List D1} {id j : Int} (h : j ≠ id) : dFil (dJoin (dLeave D id).2 id).2 j = dFil D j ∧ dMarks (dJoin (dLeave D id).2 id).2 j = dMarks D j :=
  dFil_find ((find_join h).trans (find_leave h))
theorem fresh_none {D : List D1} {id : Int} (hs : (D.find? fun x => x.1 == id).isSome = false) : dLeave D id = (8, D) := by
  unfold dLeave; rw [if_neg (by simp [hs])]
/-! ### marks do not go back -/
def keptM (was now : List Mk) : Bool := was.all fun m => now.any fun x => decide (x.1 = m.1) && decide (m.2 ≤ x.2)
theorem keptM_refl (M : List Mk) : keptM M M = true := by
  unfold keptM
  rw [List.all_eq_true]
  intro m hm
  rw [List.any_eq_true]
  exact ⟨m, hm, by simp⟩
theorem dMarks_join (D : List D1) (id j : Int) : dMarks (dJoin D id).2 j = dMarks D j := by
  by_cases h : j = id
  · subst h
    by_cases h0 : (dJoin D j).1 = 0
    · have hf := find_join_self h0
      have hn : D.find? (fun x => x.1 == j) = none := by
        unfold dJoin at h0
        repeat' split at h0
        all_goals try (simp at h0; done)
        rename_i h1 h2 h3
        exact Option.not_isSome_iff_eq_none.1 h2
      unfold dMarks; rw [hf, hn]
    · have e : (dJoin D j).2 = D := by
        unfold dJoin at h0 ⊢
        split
        · rfl
        · rename_i h1
          rw [if_neg h1] at h0
          split
          · rfl
          · rename_i h2
            rw [if_neg h2] at h0
            split
            · rfl
            · rename_i h3
              rw [if_neg h3] at h0
              exact absurd rfl h0
      rw [e]
  · exact (dFil_find (find_join h)).2
theorem dMarks_leave (D : List D1) {id j : Int} (h : j ≠ id) : dMarks (dLeave D id).2 j = dMarks D j := (dFil_find (find_leave h)).2
theorem dMarks_setF (D : List D1) (id : Int) (F : List ByteArray) (j : Int) : dMarks (dSetF D id F) j = dMarks D j := by
  unfold dMarks dSetF
  rw [List.find?_map]
  have e : ((fun x : D1 => x.1 == j) ∘ fun x : D1 => if x.1 == id then (x.1, F, x.2.2) else x) = fun x => x.1 == j := by
    funext x; simp only [Function.comp_apply]; split <;> rfl
  rw [e]
  cases D.find? fun x => x.1 == j with
  | none => rfl
  | some x => simp only [Option.map_some]; split <;> rfl
theorem dMarks_ask (D : List D1) (id : Int) (f : ByteArray) (on : Bool) (j : Int) : dMarks (dAsk D id f on).2 j = dMarks D j := by
  unfold dAsk
  repeat' split
  all_goals first | rfl | exact dMarks_setF _ _ _ _
theorem find_upd (D : List D1) (e : Ev) (j : Int) : ((D.map (upd e)).find? fun x => x.1 == j) = (D.find? fun x => x.1 == j).map (upd e) := by
  rw [List.find?_map]
  congr 1
  congr 1
  funext x
  simp [upd_id]
theorem mfind_mem {M : List Mk} (h : M.Pairwise fun a b => a.1 < b.1) {m : Mk} (hm : m ∈ M) : mfind M m.1 = some m.2 := by
  induction M with
  | nil => simp at hm
  | cons y r ih =>
    rw [List.pairwise_cons] at h
    unfold mfind at *
    rw [List.find?_cons]
    rcases List.mem_cons.1 hm with rfl | hm
    · simp
    · have := h.1 m hm
      have e : (y.1 == m.1) = false := by simp; omega
      rw [e]; exact ih h.2 hm
theorem keptM_put {M : List Mk} (h : M.Pairwise fun a b => a.1 < b.1) {o s : Int} (hs : (mfind M o).getD 0 < s) : keptM M (putM M o s) = true := by
  unfold keptM
  rw [List.all_eq_true]
  intro m hm
  rw [List.any_eq_true]
  by_cases e : m.1 = o
  · refine ⟨(o, s), insM_mem.2 (.inl rfl), ?_⟩
    have := mfind_mem h hm
    rw [e] at this
    rw [this] at hs
    simp at hs ⊢
    exact ⟨e.symm, by omega⟩
  · refine ⟨m, insM_mem.2 (.inr (List.mem_filter.2 ⟨hm, by simpa using e⟩)), by simp⟩
theorem keptM_offer {D : List D1} (h : DInv D) (e : Ev) (j : Int) : keptM (dMarks D j) (dMarks (dOffer D e).2 j) = true := by
  unfold dOffer
  split
  · unfold dMarks
    simp only
    rw [find_upd]
    cases hf : D.find? fun x => x.1 == j with
    | none => rfl
    | some x =>
      simp only [Option.map_some]
      have hX := h.xs x (List.mem_of_find?_eq_some hf)
      unfold upd
      split
      · rename_i ht
        simp only [takesB, Bool.and_eq_true, decide_eq_true_eq] at ht
        exact keptM_put hX.ms ht.1.2
      · exact keptM_refl _
  · exact keptM_refl _
/-- Who is given an event. -/
theorem given_iff {D : List D1} (h : DInv D) (e : Ev) (j : Int) : ((dOffer D e).1.any fun x => x == j) = (evRight e && (decide (e.k ≠ 0) && takesB (dFil D j) (dMarks D j) e)) := by
  unfold dOffer
  by_cases hc : evRight e = true ∧ e.k ≠ 0
  · rw [if_pos hc]
    simp only [hc.1, ne_eq, hc.2, not_false_eq_true, decide_true, Bool.true_and]
    have hsort := h.sorted
    clear h hc
    unfold dFil dMarks
    induction D with
    | nil => simp [takesB, letsB]
    | cons y r ih =>
      rw [List.pairwise_cons] at hsort
      rw [List.filter_cons, List.find?_cons]
      by_cases hy : y.1 = j
      · have hy' : (y.1 == j) = true := by simpa using hy
        rw [hy']
        simp only
        cases ht : takesB y.2.1 y.2.2 e with
        | true => simp [hy]
        | false =>
          simp only [Bool.false_eq_true, if_false]
          rw [List.any_eq_false]
          intro x hx
          obtain ⟨z, hz, rfl⟩ := List.mem_map.1 hx
          have := hsort.1 z (List.mem_filter.1 hz).1
          simp; omega
      · have hy' : (y.1 == j) = false := by simpa using hy
        rw [hy']
        simp only
        rw [← ih hsort.2]
        cases takesB y.2.1 y.2.2 e <;> simp [hy]
  · rw [if_neg hc]
    rcases Decidable.not_and_iff_or_not.1 hc with hc | hc
    · simp [hc]
    · simp only [ne_eq, Decidable.not_not] at hc
      simp [hc]
/-- The mark that a loop over marks finds: the last one. -/
def markL (M : List Mk) (o : Int) : Int := M.foldl (fun a m => if m.1 = o then m.2 else a) 0
theorem markL_go {M : List Mk} (h : M.Pairwise fun a b => a.1 < b.1) (o a : Int) : M.foldl (fun a m => if m.1 = o then m.2 else a) a = (mfind M o).getD a := by
  induction M generalizing a with
  | nil => rfl
  | cons y r ih =>
    rw [List.pairwise_cons] at h
    rw [List.foldl_cons, ih h.2]
    unfold mfind
    rw [List.find?_cons]
    by_cases hy : y.1 = o
    · have hy' : (y.1 == o) = true := by simpa using hy
      rw [hy', if_pos hy]
      have hn : r.find? (fun m => m.1 == o) = none := by
        rw [List.find?_eq_none]
        intro x hx
        have := h.1 x hx
        simp; omega
      rw [hn]; rfl
    · have hy' : (y.1 == o) = false := by simpa using hy
      rw [hy', if_neg hy]
theorem markL_eq {M : List Mk} (h : M.Pairwise fun a b => a.1 < b.1) (o : Int) : markL M o = (mfind M o).getD 0 := markL_go h o 0
theorem dMarks_sorted {D : List D1} (h : DInv D) (j : Int) : (dMarks D j).Pairwise (fun a b => a.1 < b.1) ∧ (dMarks D j).length ≤ 32 ∧ (dFil D j).length ≤ 8 ∧ (∀ f ∈ dFil D j, f.size ≤ 1000000) := by
  unfold dMarks dFil
  cases hf : D.find? fun x => x.1 == j with
  | none => simp
  | some x =>
    have hX := h.xs x (List.mem_of_find?_eq_some hf)
    exact ⟨hX.ms, hX.ml, hX.fl, hX.fs⟩
theorem given_yes {D : List D1} (h : DInv D) {e : Ev} {j : Int} (hg : ((dOffer D e).1.any fun x => x == j) = true) : markL (dMarks D j) e.o < e.s ∧ 1 ≤ e.k ∧ letsB (dFil D j) e.t = true ∧ evRight e = true := by
  rw [given_iff h] at hg
  simp only [Bool.and_eq_true, decide_eq_true_eq, takesB] at hg
  obtain ⟨h1, h2, ⟨h3, h4⟩, h5⟩ := hg
  rw [markL_eq (dMarks_sorted h j).1]
  refine ⟨h4, ?_, h3, h1⟩
  simp only [evRight, inB, Bool.and_eq_true, decide_eq_true_eq] at h1
  omega
theorem given_no {D : List D1} (h : DInv D) {e : Ev} {j : Int} (hg : ((dOffer D e).1.any fun x => x == j) = false) : ¬ (evRight e = true ∧ 0 < e.k ∧ markL (dMarks D j) e.o < e.s ∧ letsB (dFil D j) e.t = true ∧ (dMarks D j).length < 32) := by
  rintro ⟨h1, h2, h3, h4, h5⟩
  rw [given_iff h, markL_eq (dMarks_sorted h j).1] at *
  have : takesB (dFil D j) (dMarks D j) e = true := by
    simp only [takesB, Bool.and_eq_true, decide_eq_true_eq, Bool.or_eq_true]
    exact ⟨⟨h4, h3⟩, .inr h5⟩
  rw [h1, this] at hg
  simp at hg; omega
/-! ### one device that asks -/
theorem ask_one (F : List ByteArray) (f : ByteArray) (on : Bool) : dAsk [(1, F, [])] 1 f on =
    if filterB f = false then (1, [(1, F, [])]) else if on = true then (if hasB f F = true then (9, [(1, F, [])]) else if 8 ≤ F.length then (7, [(1, F, [])]) else (0, [(1, insF f F, [])])) else if hasB f F = false then (8, [(1, F, [])]) else (0, [(1, F.filter fun x => decide (x ≠ f), [])]) := by
  unfold dAsk
  simp only [List.find?_cons, beq_self_eq_true]
  repeat' split
  all_goals first | rfl | (simp [dSetF]; done)
end Go.Proofs.YtjabhhpmofodlaaGreatDoor
