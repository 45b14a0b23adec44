/- device.Ask. -/
import Derived.Test.YtjabhhpmofodlaaGreatDoorG4
import Derived.Test.YtjabhhpmofodlaaGreatDoorO1
namespace Go.Proofs.YtjabhhpmofodlaaGreatDoor
open Go.RowKit
set_option linter.unusedVariables false
set_option linter.unusedSimpArgs false
theorem heap_setCell_same {w : World} {b j : Nat} {cs : Array Value} {t : TypeId} {z : Nat × Nat} (h : w.heap[b]? = some (.cells cs t z)) (v : Value) : (w.setCell ⟨b, j, none⟩ v).heap[b]? = some (.cells (cs.setIfInBounds j v) t z) := by
  have hlt := (Array.getElem?_eq_some_iff.1 h).1
  have he := (Array.getElem?_eq_some_iff.1 h).2
  simp [World.setCell, Array.getElem?_modify, h]
def setF (L : List G) (id : Int) (F : List ByteArray) : List G := L.map fun x => if x.id == id then { x with F := F } else x
def dSetF (D : List D1) (id : Int) (F : List ByteArray) : List D1 := D.map fun x => if x.1 == id then (x.1, F, x.2.2) else x
theorem ab_setF (L : List G) (id : Int) (F : List ByteArray) : ab (setF L id F) = dSetF (ab L) id F := by
  unfold ab setF dSetF
  rw [List.map_map, List.map_map]
  apply List.map_congr_left
  intro x _
  simp only [Function.comp_apply]
  split <;> rfl
theorem gmap_setF (L : List G) (id : Int) (F : List ByteArray) : gmap (setF L id F) = gmap L := by
  unfold gmap setF
  rw [List.map_map]
  apply List.map_congr_left
  intro x _
  simp only [Function.comp_apply]
  split <;> rfl
theorem id_unique {L : List G} (h : L.Pairwise fun a b => a.id < b.id) {x y : G} (hx : x ∈ L) (hy : y ∈ L) (e : x.id = y.id) : x = y := by
  induction L with
  | nil => simp at hx
  | cons a r ih =>
    rw [List.pairwise_cons] at h
    rcases List.mem_cons.1 hx with rfl | hx1 <;> rcases List.mem_cons.1 hy with rfl | hy1
    · rfl
    · have := h.1 _ hy1; omega
    · have := h.1 _ hx1; omega
    · exact ih h.2 hx1 hy1
theorem nodup_map_inj {α β : Type} {f : α → β} {L : List α} (h : (L.map f).Nodup) {x y : α} (hx : x ∈ L) (hy : y ∈ L) (e : f x = f y) : x = y := by
  induction L with
  | nil => simp at hx
  | cons a r ih =>
    rw [List.map_cons, List.nodup_cons] at h
    rcases List.mem_cons.1 hx with rfl | hx1 <;> rcases List.mem_cons.1 hy with rfl | hy1
    · rfl
    · exact absurd (List.mem_map.2 ⟨_, hy1, e.symm⟩) h.1
    · exact absurd (List.mem_map.2 ⟨_, hx1, e⟩) h.1
    · exact ih h.2 hx1 hy1
theorem DevAt.setF {w : World} {bd bm : Nat} {L : List G} (h : DevAt w bd bm L) {y : G} (hy : y ∈ L) (vf : Value) (F : List ByteArray) (hr : RAt w w.heap.size vf (strs F)) : DevAt (w.setCell ⟨y.bo, 0, none⟩ vf) bd bm (setF L y.id F) := by
  have hne := h.bd_ne
  have hT : Turn (· = y.bo) w (w.setCell ⟨y.bo, 0, none⟩ vf) := Turn.setCell (S := (· = y.bo)) (Turn.refl _ w) (p := ⟨y.bo, 0, none⟩) (fun _ => rfl) vf
  have hdy := (h.ones y hy).dull.1
  have hD : ∀ i, i = y.bo → Dull w i := by rintro i rfl; exact hdy
  refine ⟨(hT.block _ (Array.getElem?_eq_some_iff.1 h.box).1 (hne.2 y hy).1).trans h.box, ?_, ?_, ?_, ?_, ?_, ?_⟩
  · rw [gmap_setF]; exact h.map.turn hT (Ne.symm (hne.2 y hy).2.2.1)
  · intro x hx
    obtain ⟨x0, hx0, rfl⟩ := List.mem_map.1 hx
    by_cases e : x0.id = y.id
    · obtain rfl := id_unique h.sorted hx0 hy e
      have e' : (x0.id == x0.id) = true := by simp
      simp only [e', if_true]
      obtain ⟨v0, hb, hr0, hm⟩ := h.ones x0 hx0
      refine ⟨vf, ?_, (hr.turn hT hD).mono hT.size, hm.turn hT (Ne.symm ((hne.2 x0 hx0).2.2.2 x0 hx0))⟩
      rw [heap_setCell_same hb]; rfl
    · have e' : (x0.id == y.id) = false := by simpa using e
      simp only [e', Bool.false_eq_true, if_false]
      refine (h.ones x0 hx0).turn hT hD (fun e2 => e ?_) (Ne.symm ((hne.2 y hy).2.2.2 x0 hx0))
      rw [nodup_map_inj h.bos hx0 hy e2]
  · unfold Proofs.YtjabhhpmofodlaaGreatDoor.setF
    rw [List.pairwise_map]
    refine h.sorted.imp ?_
    intro a b hab
    split <;> split <;> exact hab
  · have : (Proofs.YtjabhhpmofodlaaGreatDoor.setF L y.id F).map (·.bo) = L.map (·.bo) := by
      unfold Proofs.YtjabhhpmofodlaaGreatDoor.setF
      rw [List.map_map]; apply List.map_congr_left; intro x _; simp only [Function.comp_apply]; split <;> rfl
    rw [this]; exact h.bos
  · have : (Proofs.YtjabhhpmofodlaaGreatDoor.setF L y.id F).map (·.bk) = L.map (·.bk) := by
      unfold Proofs.YtjabhhpmofodlaaGreatDoor.setF
      rw [List.map_map]; apply List.map_congr_left; intro x _; simp only [Function.comp_apply]; split <;> rfl
    rw [this]; exact h.bks
  · intro x hx
    obtain ⟨x0, hx0, rfl⟩ := List.mem_map.1 hx
    have := h.bm_ne x0 hx0
    split <;> exact this
theorem foot_setF {L : List G} {id : Int} {F : List ByteArray} {bm i : Nat} (h : foot bm (setF L id F) i) : foot bm L i := by
  rcases h with rfl | ⟨x, hx, hi⟩
  · exact .inl rfl
  · obtain ⟨x0, hx0, rfl⟩ := List.mem_map.1 hx
    refine .inr ⟨x0, hx0, ?_⟩
    split at hi <;> exact hi
def dAsk (D : List D1) (id : Int) (f : ByteArray) (on : Bool) : Int × List D1 :=
  match D.find? fun x => x.1 == id with
  | none => (8, D)
  | some x =>
    if filterB f = false then (1, D)
    else if on = true then (if hasB f x.2.1 = true then (9, D) else if 8 ≤ x.2.1.length then (7, D) else (0, dSetF D id (insF f x.2.1)))
    else if hasB f x.2.1 = false then (8, D) else (0, dSetF D id (x.2.1.filter fun x => decide (x ≠ f)))
theorem found_at {F : List ByteArray} (h : FSorted F) {f : ByteArray} {i : Nat} (hi : i ≤ F.length) (h1 : ∀ k (h : k < F.length), k < i → fCmp F[k] f < 0) (h2 : ∀ k (h : k < F.length), i ≤ k → 0 ≤ fCmp F[k] f) (hh : hasB f F = true) : i < F.length ∧ F[i]? = some f := by
  have := search_mem h hi h1 h2
  rw [hh] at this
  cases hx : F[i]? with
  | none => rw [hx] at this; cases this
  | some x =>
    rw [hx] at this
    have e : x = f := fCmp_zero.1 (by simpa using this)
    exact ⟨(List.getElem?_eq_some_iff.1 hx).1, by rw [e]⟩
theorem found_some {v : Value} {o : Option G} {y : G} (h : o = some y) (e : v = (o.map fun x => Value.pointer (some ⟨x.bo, 0, none⟩)).getD (.pointer none)) : v = .pointer (some ⟨y.bo, 0, none⟩) := by rw [e, h]; rfl
set_option maxRecDepth 100000 in
set_option maxHeartbeats 4000000 in
theorem ask_any (id : Int) (f : ByteArray) (on : Bool) (bd bm : Nat) (L : List G) (w : World) (h : DevAt w bd bm L) (hid : -9223372036854775808 ≤ id ∧ id ≤ 9223372036854775807) (hI : DInv (ab L)) (hf : f.size ≤ 1000000) :
    Calls Tryz.prog 25 #[.pointer (some ⟨bd, 0, none⟩), .int .i64 id, .string f, .bool on] w fun e w' => e = .returned (.int .i64 (dAsk (ab L) id f on).1) ∧ Step w bd bm L w' (dAsk (ab L) id f on).2 := by
  have hfd := gfind L id
  have hfa := ab_find L id
  have hbx := h.bd_cell
  have HM := Lib.hid h.map
  have HW := Lib.hid (wf64 hid)
  have HH := Lib.hid h
  have hF := Lib.hid (fun w => filter_any f w (by omega))
  cases hfi : L.find? fun x => x.id == id with
  | none =>
    have hj : dAsk (ab L) id f on = (8, ab L) := by unfold dAsk; rw [hfa, hfi]; rfl
    rw [hj]
    rw [hfi] at hfd
    have HF := Lib.hid hfd
    clear hj hfi hfa hfd h
    go_enter Tryz.func25, Tryz.ntmps25
    go_wp2_with (at_lookup; go_must (refine wp_look h3u rfl _ _ 119 rfl 125 Tryz.underlying119 (.pointer none) (zero125 _) bm (gmap L) rfl HM.out id rfl HW.out ?_); rw [HF.out]; dsimp only [Option.map_none, Option.getD_none])
    go_ret
    exact ⟨rfl, step_refl HH.out (Below.refl _ _)⟩
  | some y =>
    have hy : y ∈ L := List.mem_of_find?_eq_some hfi
    have hyid : y.id = id := by have := List.find?_some hfi; simpa using this
    rw [hfi] at hfd
    have HF := Lib.hid hfd
    obtain ⟨vf, hob, hrf, hmf⟩ := h.ones y hy
    have hX := hI.xs _ (ab_mem hy)
    have HX := Lib.hid hX
    have c0 : w.cell? ⟨y.bo, 0, none⟩ = some vf := by rw [cell_arr hob]; rfl
    have hj : dAsk (ab L) id f on = if filterB f = false then (1, ab L)
      else if on = true then (if hasB f y.F = true then (9, ab L) else if 8 ≤ y.F.length then (7, ab L) else (0, dSetF (ab L) id (insF f y.F)))
      else if hasB f y.F = false then (8, ab L) else (0, dSetF (ab L) id (y.F.filter fun x => decide (x ≠ f))) := by unfold dAsk; rw [hfa, hfi]; rfl
    rw [hj]
    have hbo := World.block_lt_of_cell? w _ c0
    clear hj hfa hfi hfd h hI hmf hX
    cases hFf : filterB f with
    | false =>
      rw [if_pos rfl]
      go_enter Tryz.func25, Tryz.ntmps25
      go_wp2_with (first | (at_lookup; go_must (refine wp_look h3u rfl _ _ 119 rfl 125 Tryz.underlying119 (.pointer none) (zero125 _) bm (gmap L) rfl HM.out id rfl HW.out ?_); rw [HF.out]; dsimp only [Option.map_some, Option.getD_some]) | (go_at_call 81; refine (hF.out _).mono ?_; rw [hFf]; rintro e w1 ⟨rfl, hb1⟩))
      go_ret
      exact ⟨rfl, step_refl HH.out hb1⟩
    | true =>
      rw [if_neg (by simp)]
      have hFl : y.F.length ≤ 8 := HX.out.fl
      have hFs : ∀ x ∈ y.F, x.size ≤ 1000000 := HX.out.fs
      have hFo : FSorted y.F := HX.out.fo
      obtain ⟨F, hFF⟩ : ∃ F, y.F = F := ⟨_, rfl⟩
      rw [hFF] at hFl hFs hFo hrf ⊢
      have HFS := Lib.hid hFs
      have HFO := Lib.hid hFo
      have HRF := Lib.hid hrf
      have HOB := Lib.hid hob
      have HFF := Lib.hid hFF
      clear hFs hFo hrf HX hob hFF
      have hS : Hid (∀ w1, Below w.heap.size w w1 → Calls Tryz.prog 82 #[vf, .string f, .func (.func 83) #[] #[]] w1 fun e w' => (∃ i : Nat, i ≤ F.length ∧ e = .returned (.tuple #[.int .i64 i, .bool (hasB f F)]) ∧ (∀ k (h : k < F.length), k < i → fCmp F[k] f < 0) ∧ (∀ k (h : k < F.length), i ≤ k → 0 ≤ fCmp F[k] f)) ∧ Below w1.heap.size w1 w') := Lib.hid (by
        intro w1 hb
        refine (search_any vf F f w1 ((HRF.out.below hb).mono hb.size) (by omega) (fun x hx => Nat.le_trans (HFS.out x hx) (by omega)) (by omega) (search_mono HFO.out f)).mono ?_
        rintro e w' ⟨⟨i, hi, rfl, h1, h2⟩, hb⟩
        exact ⟨⟨i, hi, congrArg (fun b => Ending.returned (.tuple #[.int .i64 i, .bool b])) (search_mem HFO.out hi h1 h2), h1, h2⟩, hb⟩)
      obtain ⟨p, cap, rfl, _⟩ := HRF.out
      rw [strs_length] at *
      cases on with
      | true =>
        rw [if_pos rfl]
        cases hhad : hasB f F with
        | true =>
          rw [if_pos rfl]
          go_enter Tryz.func25, Tryz.ntmps25
          go_wp2_with (first | (at_lookup; go_must (refine wp_look h3u rfl _ _ 119 rfl 125 Tryz.underlying119 (.pointer none) (zero125 _) bm (gmap L) rfl HM.out id rfl HW.out ?_); rw [HF.out]; dsimp only [Option.map_some, Option.getD_some]) | (go_at_call 81; refine (hF.out _).mono ?_; rw [hFf]; rintro e w1 ⟨rfl, hb1⟩; have c1 := below_cell hb1 c0) | (go_at_call 82; refine (hS.out _ hb1).mono ?_; rw [hhad]; rintro e w2 ⟨⟨i, hi, rfl, h1, h2⟩, hb2⟩; have c2 := below_cell hb2 c1; have H1 := Lib.hid h1; have H2 := Lib.hid h2; clear h1 h2))
          go_ret
          exact ⟨rfl, step_refl HH.out (below_go hb1 hb2)⟩
        | false =>
          rw [if_neg (by simp)]
          by_cases h8 : 8 ≤ F.length
          · rw [if_pos h8]
            go_enter Tryz.func25, Tryz.ntmps25
            go_wp2_with (first | (at_lookup; go_must (refine wp_look h3u rfl _ _ 119 rfl 125 Tryz.underlying119 (.pointer none) (zero125 _) bm (gmap L) rfl HM.out id rfl HW.out ?_); rw [HF.out]; dsimp only [Option.map_some, Option.getD_some]) | (go_at_call 81; refine (hF.out _).mono ?_; rw [hFf]; rintro e w1 ⟨rfl, hb1⟩; have c1 := below_cell hb1 c0) | (go_at_call 82; refine (hS.out _ hb1).mono ?_; rw [hhad]; rintro e w2 ⟨⟨i, hi, rfl, h1, h2⟩, hb2⟩; have c2 := below_cell hb2 c1; have H1 := Lib.hid h1; have H2 := Lib.hid h2; clear h1 h2))
            go_ret
            exact ⟨rfl, step_refl HH.out (below_go hb1 hb2)⟩
          · rw [if_neg h8]
            go_enter Tryz.func25, Tryz.ntmps25
            go_wp2_with (first | (at_lookup; go_must (refine wp_look h3u rfl _ _ 119 rfl 125 Tryz.underlying119 (.pointer none) (zero125 _) bm (gmap L) rfl HM.out id rfl HW.out ?_); rw [HF.out]; dsimp only [Option.map_some, Option.getD_some]) | (go_at_call 81; refine (hF.out _).mono ?_; rw [hFf]; rintro e w1 ⟨rfl, hb1⟩; have c1 := below_cell hb1 c0) | (go_at_call 82; refine (hS.out _ hb1).mono ?_; rw [hhad]; rintro e w2 ⟨⟨i, hi, rfl, h1, h2⟩, hb2⟩; have c2 := below_cell hb2 c1; have H1 := Lib.hid h1; have H2 := Lib.hid h2; clear h1 h2) | (go_at_call 80; refine (clone_any _ F _ ((HRF.out.below (below_go hb1 hb2)).mono (below_go hb1 hb2).size) (by omega)).mono ?_; rintro e w3 ⟨v3, rfl, ho3, hb3⟩; have HO3 := Lib.hid ho3; clear ho3) | (go_at_call 86; refine (insert_any v3 F f i w2.heap.size w3.heap.size 1 _ (HO3.out.alloc _) (by have := hb3.size; simp; omega) hi (by omega) (World.alloc_heap_new w3 _) (fun e => by have := (HO3.out.lt _ e).2; omega)).mono ?_; rintro e w4 ⟨v4, rfl, hr4, hb4⟩; have HR4 := Lib.hid hr4; obtain ⟨p4, cap4, rfl, _⟩ := hr4; have hb04 := below_go (below_go hb1 hb2) ((hb3.alloc hb3.size _).trans hb4); have c4 := below_cell hb04 c0; have HB := Lib.hid ((hb04.block y.bo hbo).trans HOB.out); have f4 : w4.frozen? ⟨y.bo, 0, none⟩ = false := (by unfold World.frozen?; rw [HB.out]; simp)))
            go_ret
            have hD := (HH.out.below hb04).setF hy _ _ HR4.out
            refine ⟨rfl, _, hD, ?_, fun i h => .inl (foot_setF h), (Turn.of_below' hb04).setCell (fun _ => .inr ⟨y, hy, .inl rfl⟩) _⟩
            rw [ab_setF, hyid]
            congr 2; exact insF_eq hi H1.out H2.out
      | false =>
        rw [if_neg (by simp)]
        cases hhad : hasB f F with
        | false =>
          rw [if_pos rfl]
          go_enter Tryz.func25, Tryz.ntmps25
          go_wp2_with (first | (at_lookup; go_must (refine wp_look h3u rfl _ _ 119 rfl 125 Tryz.underlying119 (.pointer none) (zero125 _) bm (gmap L) rfl HM.out id rfl HW.out ?_); rw [HF.out]; dsimp only [Option.map_some, Option.getD_some]) | (go_at_call 81; refine (hF.out _).mono ?_; rw [hFf]; rintro e w1 ⟨rfl, hb1⟩; have c1 := below_cell hb1 c0) | (go_at_call 82; refine (hS.out _ hb1).mono ?_; rw [hhad]; rintro e w2 ⟨⟨i, hi, rfl, h1, h2⟩, hb2⟩; have c2 := below_cell hb2 c1; have H1 := Lib.hid h1; have H2 := Lib.hid h2; clear h1 h2))
          go_ret
          exact ⟨rfl, step_refl HH.out (below_go hb1 hb2)⟩
        | true =>
          rw [if_neg (by simp)]
          · go_enter Tryz.func25, Tryz.ntmps25
            go_wp2_with (first | (at_lookup; go_must (refine wp_look h3u rfl _ _ 119 rfl 125 Tryz.underlying119 (.pointer none) (zero125 _) bm (gmap L) rfl HM.out id rfl HW.out ?_); rw [HF.out]; dsimp only [Option.map_some, Option.getD_some]) | (go_at_call 81; refine (hF.out _).mono ?_; rw [hFf]; rintro e w1 ⟨rfl, hb1⟩; have c1 := below_cell hb1 c0) | (go_at_call 82; refine (hS.out _ hb1).mono ?_; rw [hhad]; rintro e w2 ⟨⟨i, hi, rfl, h1, h2⟩, hb2⟩; have c2 := below_cell hb2 c1; have H1 := Lib.hid h1; have H2 := Lib.hid h2; have hi2 := (found_at HFO.out hi h1 h2 hhad).1; have HFA := Lib.hid (found_at HFO.out hi h1 h2 hhad).2; clear h1 h2) | (go_at_call 80; refine (clone_any _ F _ ((HRF.out.below (below_go hb1 hb2)).mono (below_go hb1 hb2).size) (by omega)).mono ?_; rintro e w3 ⟨v3, rfl, ho3, hb3⟩; have HO3 := Lib.hid ho3; clear ho3) | (go_at_call 87; refine (delete_any v3 F i w2.heap.size _ HO3.out (by have := hb3.size; omega) hi2 (by omega)).mono ?_; rintro e w4 ⟨v4, rfl, hr4, hb4⟩; have HR4 := Lib.hid hr4; obtain ⟨p4, cap4, rfl, _⟩ := hr4; have hb04 := below_go (below_go hb1 hb2) (hb3.trans hb4); have c4 := below_cell hb04 c0; have HB := Lib.hid ((hb04.block y.bo hbo).trans HOB.out); have f4 : w4.frozen? ⟨y.bo, 0, none⟩ = false := (by unfold World.frozen?; rw [HB.out]; simp)))
            go_ret
            have hD := (HH.out.below hb04).setF hy _ _ HR4.out
            refine ⟨rfl, _, hD, ?_, fun i h => .inl (foot_setF h), (Turn.of_below' hb04).setCell (fun _ => .inr ⟨y, hy, .inl rfl⟩) _⟩
            rw [ab_setF, hyid]
            congr 2; exact erase_eq HFO.out hi2 (by have := HFA.out; rw [List.getElem?_eq_getElem hi2] at this; simpa using this)
end Go.Proofs.YtjabhhpmofodlaaGreatDoor
