/- slices.Clone, Insert, Delete at rows of strings, in own words. -/
import Derived.Test.YtjabhhpmofodlaaGreatDoorC2
import Derived.Test.YtjabhhpmofodlaaGreatDoorShelf
import Derived.Deep.MidRow
namespace Go.Proofs.YtjabhhpmofodlaaGreatDoor
open Go.RowKit
set_option linter.unusedVariables false
set_option linter.unusedSimpArgs false
theorem cell_arr {w : World} {g : Nat} {cur : Array Value} {e : TypeId} {z : Nat × Nat} (h : w.heap[g]? = some (.cells cur e z)) (j : Nat) : w.cell? ⟨g, j, none⟩ = cur[j]? := by
  unfold World.cell?; simp [h]
theorem rat_block {w : World} {g : Nat} {cur : Array Value} {e : TypeId} {z : Nat × Nat} {vs : List Value} {cap : Nat} (h : w.heap[g]? = some (.cells cur e z)) (hc : cur.toList.take vs.length = vs) : RAt w w.heap.size (.slice (some ⟨g, 0, none⟩) vs.length cap) vs := by
  refine ⟨_, cap, rfl, fun j hj => ⟨g, rfl, (Array.getElem?_eq_some_iff.1 h).1, ?_⟩⟩
  rw [cell_arr h]
  have : (cur.toList.take vs.length)[j]? = some vs[j] := by rw [hc]; simp [hj]
  rw [List.getElem?_take_of_lt hj] at this
  simpa using this
theorem clone_any (v : Value) (xs : List ByteArray) (w : World) (hv : RAt w w.heap.size v (strs xs)) (hl : xs.length ≤ 1000000000) :
    Calls Tryz.prog 80 #[v] w fun e w' => ∃ v', e = .returned v' ∧ OwnS w' w.heap.size v' xs ∧ Below w.heap.size w w' := by
  by_cases h0 : 0 < xs.length
  · obtain ⟨g, cap, rfl, hg, hc⟩ := hv.open_s h0
    refine (Any.slices_Clone_string Tryz.laysNm216 g 0 xs.length cap xs w (Nat.le_refl _) (by omega) (fun j hj => by rw [Nat.zero_add, hc j hj]; simp [List.getD_eq_getElem?_getD, hj])).mono ?_
    rintro e w' ⟨v', rfl, ho, _, hb⟩
    refine ⟨v', rfl, ?_, hb⟩
    unfold OwnS
    rw [strs_length]
    rw [List.take_length] at ho
    exact ho
  · obtain rfl : xs = [] := List.eq_nil_of_length_eq_zero (by omega)
    obtain ⟨p, cap, rfl⟩ := hv.nil_open rfl
    cases p with
    | none =>
      refine (Any.slices_Clone_string_nil Tryz.laysNm216 0 cap w).mono ?_
      rintro e w' ⟨rfl, rfl⟩
      exact ⟨_, rfl, World.ownsRow_nil _ _ _ _, Below.refl _ _⟩
    | some a =>
      refine (Any.slices_Clone_string_zero Tryz.laysNm216 a cap w).mono ?_
      rintro e w' ⟨v', rfl, ho, _, hb⟩
      exact ⟨_, rfl, ho, hb⟩
theorem size_setCells (g : Nat) (vs : List Value) (o : Nat) (w : World) : (w.setCells g o vs).heap.size = w.heap.size := by
  induction vs generalizing o w with
  | nil => rfl
  | cons v r ih => rw [World.setCells, ih]; simp [World.setCell]
def insL (xs : List ByteArray) (i : Nat) (x : ByteArray) : List ByteArray := xs.take i ++ x :: xs.drop i
theorem Below.setCells {B : Nat} {a w : World} (h : Below B a w) {g : Nat} (hg : B ≤ g) (o : Nat) (vs : List Value) : Below B a (w.setCells g o vs) := by
  induction vs generalizing o w with
  | nil => exact h
  | cons v r ih => exact ih (h.setCell (p := ⟨g, o, none⟩) hg v) _
theorem insert_any (v : Value) (xs : List ByteArray) (x : ByteArray) (i base vb vc : Nat) (w : World) (hv : OwnS w base v xs) (hb : base ≤ w.heap.size) (hi : i ≤ xs.length) (hl : xs.length ≤ 1000000) (hx : w.heap[vb]? = some (.cells #[.string x] 9)) (hvb : v.ownBlock ≠ some vb) :
    Calls Tryz.prog 86 #[v, .int .i64 i, .slice (some ⟨vb, 0, none⟩) 1 vc] w fun e w' => ∃ v', e = .returned v' ∧ RAt w' w'.heap.size v' (strs (insL xs i x)) ∧ Below base w w' := by
  have hcx : ∀ j u, ([Value.string x] : List Value)[j]? = some u → w.cell? ⟨vb, 0 + j, none⟩ = some u := by
    intro j u hu
    rw [cell_arr hx]
    cases j with
    | zero => simpa using hu
    | succ j => simp at hu
  have h1x : ∀ v ∈ ([Value.string x] : List Value), v.oneCell' = true := by simp [Value.oneCell']
  rcases hv.2 with ⟨rfl, h0⟩ | ⟨g, cap, cur, rfl, hg, hblk, hnc, hcm, hcs, hcur⟩
  · rw [strs_length] at h0
    obtain rfl : xs = [] := List.eq_nil_of_length_eq_zero h0
    obtain rfl : i = 0 := by simpa using hi
    refine (Any2.slices_Insert_string_end_grow Tryz.laysNm222 none 0 0 vb 0 1 vc [] [.string x] w (by omega) (by omega) (by omega) (by omega) rfl rfl (fun _ => rfl) (by simp) hcx h1x).mono ?_
    rintro e w' ⟨rfl, rfl⟩
    refine ⟨_, rfl, ?_, ((Below.refl base w).drew).alloc hb _⟩
    refine rat_block (vs := strs (insL [] 0 x)) (World.alloc_heap_new w.drew _) ?_
    simp [insL, strs]
  · rw [strs_length] at hnc hcur
    have hcel : ∀ j v, (strs xs)[j]? = some v → w.cell? ⟨g, 0 + j, none⟩ = some v := by
      intro j v hj
      rw [cell_arr hblk, Nat.zero_add]
      rw [← hcur] at hj
      rw [List.getElem?_take] at hj
      split at hj
      · simpa using hj
      · cases hj
    have hsome : ∀ j, j < cap → (w.cell? ⟨g, 0 + j, none⟩).isSome = true := by
      intro j hj
      rw [cell_arr hblk, Nat.zero_add]
      simp; omega
    have hsz : g < w.heap.size := (Array.getElem?_eq_some_iff.1 hblk).1
    have hfz : ∀ j, w.frozen? ⟨g, j, none⟩ = false := by intro j; unfold World.frozen?; simp [hblk]
    have hcl : (strs xs).length = xs.length := strs_length xs
    have hne : vb ≠ g := fun e => hvb (by simp [Value.ownBlock, e])
    have h1c : ∀ v ∈ strs xs, v.oneCell' = true := by intro v hv; simp [strs] at hv; obtain ⟨a, _, rfl⟩ := hv; rfl
    have hins : (strs (insL xs i x)) = (strs xs).take i ++ .string x :: (strs xs).drop i := by simp [insL, strs]
    have hinl : (strs (insL xs i x)).length = xs.length + 1 := by rw [hins]; simp [hcl]; omega
    rw [hcl]
    have hcx' : ∀ vs : List Value, vs.length = xs.length + 1 → (∀ (W : World), (∀ j, j < vs.length → W.cell? ⟨g, j, none⟩ = vs[j]?) → g < W.heap.size → RAt W W.heap.size (.slice (some ⟨g, 0, none⟩) (xs.length + 1) cap) vs) := by
      intro vs hvl W hW hg
      rw [← hvl]
      exact ⟨_, cap, rfl, fun j hj => ⟨g, rfl, hg, (hW j hj).trans (by simp [hj])⟩⟩
    have hget : ∀ j, (strs (insL xs i x))[j]? = if j < i then (strs xs)[j]? else if j = i then some (.string x) else (strs xs)[j - 1]? := by
      intro j
      rw [hins, List.getElem?_append]
      have : ((strs xs).take i).length = i := by simp [hcl]; omega
      rw [this]
      by_cases h1 : j < i
      · rw [if_pos h1, if_pos h1, List.getElem?_take_of_lt h1]
      · rw [if_neg h1, if_neg h1]
        by_cases h2 : j = i
        · subst h2; simp
        · rw [if_neg h2, show j - i = (j - i - 1) + 1 by omega, List.getElem?_cons_succ, List.getElem?_drop]
          congr 1; omega
    have hcel' : ∀ j, j < xs.length → w.cell? ⟨g, j, none⟩ = (strs xs)[j]? := by
      intro j hj
      have := hcel j ((strs xs)[j]'(by omega)) (by simp [hcl, hj])
      rw [Nat.zero_add] at this
      rw [this]; simp [hcl, hj]
    by_cases hin : i < xs.length
    · by_cases hroom : xs.length + 1 ≤ cap
      · refine (Any2.slices_Insert_string_shift Tryz.laysNm222 g 0 xs.length cap i vb 0 1 vc (strs xs) [.string x] w hin (by omega) hroom (by unfold maxLen at hcm; omega) hne hcl rfl hcel (fun j hj => hsome j (by omega)) (fun j _ => hfz _) hcx h1c h1x 9 9 1 cur.size (by unfold World.shape?; simp [hx]) (by unfold World.shape?; simp [hblk]) (by omega) (by unfold World.frozen?; simp [hx]) (by unfold World.frozen?; simp [hx])).mono ?_
        rintro e w' ⟨rfl, rfl⟩
        refine ⟨_, rfl, hcx' _ hinl _ ?_ (by rw [size_setCells, size_setCells]; exact hsz), Below.setCells (Below.setCells (Below.refl base w).drew hg _ _) hg _ _⟩
        intro j hj
        rw [hget, Nat.zero_add, Nat.zero_add]
        by_cases h1 : j < i
        · rw [if_pos h1, World.cell?_setCells_out _ _ _ _ _ (fun _ _ => .inl h1), World.cell?_setCells_out _ _ _ _ _ (fun _ _ => .inl (by simp; omega))]
          exact hcel' j (by omega)
        · rw [if_neg h1]
          by_cases h2 : j = i
          · subst h2
            rw [if_pos rfl]
            have := World.cell?_setCells_in g [.string x] j (w.drew.setCells g (j + 1) ((strs xs).drop j)) (fun k hk => by
              obtain rfl : k = 0 := by simpa using hk
              refine World.isSome_setCells _ _ _ _ _ ?_
              have := hsome j (by omega)
              rwa [Nat.zero_add] at this) 0 (by simp)
            simpa using this
          · rw [if_neg h2, World.cell?_setCells_out _ _ _ _ _ (fun _ _ => .inr (by simp; omega))]
            have := World.cell?_setCells_in g ((strs xs).drop i) (i + 1) w.drew (fun k hk => by
              have hk' : k < xs.length - i := by simpa [hcl] using hk
              have := hsome (i + 1 + k) (by omega)
              rwa [Nat.zero_add] at this) (j - (i + 1)) (by simp [hcl]; omega)
            rw [show i + 1 + (j - (i + 1)) = j by omega] at this
            rw [this, ← List.getElem?_eq_getElem, List.getElem?_drop]
            congr 1; omega
      · refine (Any2.slices_Insert_string_grow Tryz.laysNm222 g 0 xs.length cap i vb 0 1 vc (strs xs) [.string x] w hin (by omega) (by omega) (by omega) (by omega) hcl rfl hcel hcx h1c h1x).mono ?_
        rintro e w' ⟨rfl, rfl⟩
        obtain ⟨arr, harr⟩ : ∃ arr, ((strs xs).take i).toArray ++ Builtin.zeroCells (Value.string (⟨#[]⟩ : ByteArray)).cells (xs.length + 1 - i) ++ Builtin.zeroCells (Value.string (⟨#[]⟩ : ByteArray)).cells (grownCap w (xs.length + 1) cap (Tryz.laysNm222_ren.t 9) - (xs.length + 1)) = arr := ⟨_, rfl⟩
        have has : xs.length + 1 ≤ arr.size := by rw [← harr]; simp [size_zeroCells, Value.cells, hcl]; omega
        have hai : ∀ j, j < i → arr[j]? = (strs xs)[j]? := by
          intro j hj
          rw [← harr, Array.getElem?_append_left (by simp [size_zeroCells, Value.cells, hcl]; omega), Array.getElem?_append_left (by simp [hcl]; omega)]
          simp [List.getElem?_take_of_lt hj]
        obtain ⟨cp, hcp⟩ : ∃ cp, grownCap w (xs.length + 1) cap (Tryz.laysNm222_ren.t 9) = cp := ⟨_, rfl⟩
        have hb9 : ∀ (W : World), W = w.alloc (.cells arr (Tryz.laysNm222_ren.t 9)) → ∀ j, W.cell? ⟨w.heap.size, j, none⟩ = arr[j]? := by
          rintro W rfl j
          exact cell_arr (World.alloc_heap_new w _) j
        rw [harr, hcp]
        generalize hW0 : w.alloc (.cells arr (Tryz.laysNm222_ren.t 9)) = W0
        have hc0 := hb9 W0 hW0.symm
        have hs0 : W0.heap.size = w.heap.size + 1 := by rw [← hW0]; simp
        have hbW : Below base w W0 := by rw [← hW0]; exact (Below.refl base w).alloc hb _
        clear hW0 hb9 harr
        have hc1 : ∀ j, W0.drew.cell? ⟨w.heap.size, j, none⟩ = arr[j]? := hc0
        generalize hW1 : W0.drew = W1 at *
        have hs1 : W1.heap.size = w.heap.size + 1 := by rw [← hW1]; exact hs0
        have hbW1 : Below base w W1 := by rw [← hW1]; exact hbW.drew
        clear hW1 hc0 hs0 hbW
        refine ⟨_, rfl, ?_, Below.setCells (Below.setCells hbW1 hb _ _).drew hb _ _⟩
        have hR : ∀ vs : List Value, vs.length = xs.length + 1 → (∀ (W : World), (∀ j, j < vs.length → W.cell? ⟨w.heap.size, j, none⟩ = vs[j]?) → w.heap.size < W.heap.size → RAt W W.heap.size (.slice (some ⟨w.heap.size, 0, none⟩) (xs.length + 1) cp) vs) := by
          intro vs hvl W hW hg
          rw [← hvl]
          exact ⟨_, cp, rfl, fun j hj => ⟨_, rfl, hg, (hW j hj).trans (by simp [hj])⟩⟩
        refine hR _ hinl _ ?_ (by rw [size_setCells]; show w.heap.size < (W1.setCells w.heap.size i [.string x]).heap.size; rw [size_setCells]; omega)
        intro j hj
        rw [hget]
        have hd : ∀ a, (W1.setCells w.heap.size i [.string x]).drew.cell? a = (W1.setCells w.heap.size i [.string x]).cell? a := fun _ => rfl
        by_cases h1 : j < i
        · rw [if_pos h1, World.cell?_setCells_out _ _ _ _ _ (fun _ _ => .inl (by simp; omega)), hd, World.cell?_setCells_out _ _ _ _ _ (fun _ _ => .inl h1), hc1, hai j h1]
        · rw [if_neg h1]
          by_cases h2 : j = i
          · subst h2
            rw [if_pos rfl, World.cell?_setCells_out _ _ _ _ _ (fun _ _ => .inl (by simp)), hd]
            have := World.cell?_setCells_in w.heap.size [.string x] j W1 (fun k hk => by
              obtain rfl : k = 0 := by simpa using hk
              rw [hc1]; simp; omega) 0 (by simp)
            simpa using this
          · rw [if_neg h2]
            have := World.cell?_setCells_in w.heap.size ((strs xs).drop i) (i + 1) (W1.setCells w.heap.size i [.string x]).drew (fun k hk => by
              have hk' : k < xs.length - i := by simpa [hcl] using hk
              rw [hd]
              refine World.isSome_setCells _ _ _ _ _ ?_
              rw [hc1]; simp; omega) (j - (i + 1)) (by simp [hcl]; omega)
            rw [show i + 1 + (j - (i + 1)) = j by omega] at this
            rw [this, ← List.getElem?_eq_getElem, List.getElem?_drop]
            congr 1; omega
    · obtain rfl : i = xs.length := by omega
      by_cases hroom : xs.length + 1 ≤ cap
      · refine (Any2.slices_Insert_string_end_room Tryz.laysNm222 g 0 xs.length cap vb 0 1 vc [.string x] w (by omega) hroom (by unfold maxLen at hcm; omega) rfl (fun j hj => by have := hsome xs.length (by omega); obtain rfl : j = 0 := (by omega); exact this) (fun j _ => hfz _) hcx h1x).mono ?_
        rintro e w' ⟨rfl, rfl⟩
        refine ⟨_, rfl, hcx' _ hinl _ ?_ (by rw [size_setCells]; exact hsz), Below.setCells (Below.refl base w) hg _ _⟩
        intro j hj
        rw [hget, Nat.zero_add]
        by_cases h1 : j < xs.length
        · rw [if_pos h1, World.cell?_setCells_out _ _ _ _ _ (fun _ _ => .inl h1)]
          exact hcel' j h1
        · obtain rfl : j = xs.length := by omega
          have := World.cell?_setCells_in g [.string x] xs.length w (fun k hk => by
            obtain rfl : k = 0 := by simpa using hk
            have := hsome xs.length (by omega)
            rwa [Nat.zero_add] at this) 0 (by simp)
          simpa using this
      · refine (Any2.slices_Insert_string_end_grow Tryz.laysNm222 (some ⟨g, 0, none⟩) xs.length cap vb 0 1 vc (strs xs) [.string x] w (by omega) (by omega) (by omega) (by omega) hcl rfl (by simp) (by rintro a ha j v hj; cases ha; rw [Addr.add_lit]; exact hcel j v hj) hcx h1x).mono ?_
        rintro e w' ⟨rfl, rfl⟩
        refine ⟨_, rfl, ?_, ((Below.refl base w).drew).alloc hb _⟩
        have := rat_block (cap := grownCap w (xs.length + 1) cap (Tryz.laysNm222_ren.t 9)) (vs := strs (insL xs xs.length x)) (World.alloc_heap_new w.drew (.cells ((strs xs ++ [Value.string x]).toArray ++ Builtin.zeroCells (Value.string (⟨#[]⟩ : ByteArray)).cells (grownCap w (xs.length + 1) cap (Tryz.laysNm222_ren.t 9) - (xs.length + 1))) (Tryz.laysNm222_ren.t 9))) ?_
        · rw [hinl] at this; exact this
        · rw [hinl, hins]
          rw [List.take_of_length_le (by omega : (strs xs).length ≤ xs.length), List.drop_eq_nil_of_le (by omega : (strs xs).length ≤ xs.length)]
          simp only [Array.toList_append, List.toList_toArray]
          rw [List.take_append_of_le_length (by simp [hcl]), List.take_of_length_le (by simp [hcl])]
theorem delete_any (v : Value) (xs : List ByteArray) (i base : Nat) (w : World) (hv : OwnS w base v xs) (hb : base ≤ w.heap.size) (hi : i < xs.length) (hl : xs.length ≤ 1000000) :
    Calls Tryz.prog 87 #[v, .int .i64 i, .int .i64 (i + 1)] w fun e w' => ∃ v', e = .returned v' ∧ RAt w' w'.heap.size v' (strs (xs.eraseIdx i)) ∧ Below base w w' := by
  rcases hv.2 with ⟨rfl, h0⟩ | ⟨g, cap, cur, rfl, hg, hblk, hnc, hcm, hcs, hcur⟩
  · rw [strs_length] at h0; omega
  · rw [strs_length] at hnc hcur
    have hcl : (strs xs).length = xs.length := strs_length xs
    have hfz : ∀ j, w.frozen? ⟨g, j, none⟩ = false := by intro j; unfold World.frozen?; simp [hblk]
    have hcel : ∀ j (hj : j < xs.length), w.cell? ⟨g, j, none⟩ = some (.string xs[j]) := by
      intro j hj
      rw [cell_arr hblk]
      have : (cur.toList.take (xs.length * 1))[j]? = some (.string xs[j]) := by rw [hcur]; simp [strs, hj]
      rw [List.getElem?_take] at this
      simp at this
      exact this.2
    rw [hcl]
    refine (Any.slices_Delete_string_cells Tryz.laysNm224 g 0 xs.length cap i (i + 1) (fun j => xs.getD j ByteArray.empty) w hnc (by unfold maxLen at hcm; omega) (by omega) (by omega) (fun j hj => by rw [Nat.zero_add, hcel j hj]; simp [List.getD_eq_getElem?_getD, hj]) (fun j _ => by rw [Nat.zero_add]; exact hfz j)).mono ?_
    rintro e w' ⟨rfl, q, rfl⟩
    have hl2 : (strs (xs.eraseIdx i)).length = xs.length - (i + 1 - i) := by rw [strs_length, List.length_eraseIdx]; simp [hi]
    refine ⟨_, rfl, ?_, Below.setCells (a := w) (w := w.drewN q) ⟨rfl, rfl, rfl, Nat.le_refl _, fun _ _ => rfl⟩ hg _ _⟩
    rw [← hl2]
    refine ⟨_, cap, rfl, fun j hj => ⟨g, rfl, ?_, ?_⟩⟩
    · rw [size_setCells]; exact (Array.getElem?_eq_some_iff.1 hblk).1
    · have hm : (Lib.strsOf (fun j => xs.getD j ByteArray.empty) xs.length).map encStr = strs xs := by
        apply List.ext_getElem?
        intro k
        simp only [Lib.strsOf, strs, List.map_map, List.getElem?_map]
        by_cases hk : k < xs.length
        · simp [hk, List.getD_eq_getElem?_getD]
        · simp [hk]
      have hL : ((Lib.strsOf (fun j => xs.getD j ByteArray.empty) xs.length).take i ++ (Lib.strsOf (fun j => xs.getD j ByteArray.empty) xs.length).drop (i + 1) ++ List.replicate (i + 1 - i) []).map encStr = strs (xs.eraseIdx i) ++ [.string ⟨#[]⟩] := by
        rw [List.map_append, List.map_append, List.map_take, List.map_drop, hm]
        simp [strs, List.eraseIdx_eq_take_drop_succ]
      rw [hL]
      have := World.cell?_setCells_in g (strs (xs.eraseIdx i) ++ [.string ⟨#[]⟩]) 0 (w.drewN q) (fun k hk => by
        have hk' : k < xs.length := by simp at hk; omega
        show (w.cell? ⟨g, 0 + k, none⟩).isSome = true
        rw [Nat.zero_add, hcel k hk']; rfl) j (by simp; omega)
      rw [Nat.zero_add] at this
      rw [this, List.getElem_append_left hj]
end Go.Proofs.YtjabhhpmofodlaaGreatDoor
