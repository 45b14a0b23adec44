/- slices.Sorted(maps.Keys(m)) at maps keyed by int; device.Ids, Filters. -/
import Derived.Test.YtjabhhpmofodlaaGreatDoorG1
namespace Go.Proofs.YtjabhhpmofodlaaGreatDoor
open Go.RowKit Go.Maps Go.Sort Go.Shelf
set_option linter.unusedVariables false
set_option linter.unusedSimpArgs false
def ints (l : List Int) : List Value := l.map (Value.int .i64)
def OwnI (w : World) (base : Nat) (v : Value) (l : List Int) : Prop := w.ownsRow base 3 1 v l.length (ints l)
theorem sorts (m : Nat) : AnyZI.SortsIn Tryz.prog Tryz.sortedA_ren Fence.wide m :=
  ⟨fun blk off cap ss W hH hblk hsz => callsIn_wide.2 (AnyM.slices_Sort_int Tryz.sortA blk off cap ss W hH hblk hsz),
   fun p cap W => callsIn_wide.2 (AnyM.slices_Sort_int_none Tryz.sortA p cap W)⟩
theorem sort_id {l : List Int} (h : l.Pairwise (· < ·)) : l.mergeSort (fun x y => decide (x ≤ y)) = l := by
  apply List.mergeSort_of_pairwise
  exact h.imp fun hab => by simp; omega
theorem keysB_c (mb : Option Nat) (W : World) : Calls Tryz.prog 96 #[.map mb] W fun e w' => e = .returned (.func (.func 155) #[] #[.pointer (some ⟨W.heap.size, 0, none⟩)]) ∧ w' = W.alloc (.cells #[.map mb] 119) :=
  (callsIn_wide (n := 5)).1 (AnyZI.keys_in Tryz.keysB Fence.wide 5 trivial rfl mb W)
theorem keysA_c (mb : Option Nat) (W : World) : Calls Tryz.prog 79 #[.map mb] W fun e w' => e = .returned (.func (.func 144) #[] #[.pointer (some ⟨W.heap.size, 0, none⟩)]) ∧ w' = W.alloc (.cells #[.map mb] 122) :=
  (callsIn_wide (n := 5)).1 (AnyZI.keys_in Tryz.keysA Fence.wide 5 trivial rfl mb W)
set_option maxHeartbeats 1000000 in
theorem sortedB_c (b : Nat) (m : IMap) (w : World) (hown : MapAt Tryz.prog w b m) (hs : MSorted m) (hl : m.length ≤ 1000000) :
    Calls Tryz.prog 78 #[.func (.func 155) #[] #[.pointer (some ⟨w.heap.size, 0, none⟩)]] (w.alloc (.cells #[.map (some b)] 119)) fun e w' =>
      ∃ v, e = .returned v ∧ OwnI w' w.heap.size v (m.map (·.1)) ∧ Below w.heap.size w w' := by
  have hsz : Maps.size (dat m) = m.length := dat_size m
  have hbl := World.ownsMap.lt hown
  have hseq : SeqGives Fence.wide 2 Tryz.prog 155 #[.pointer (some ⟨w.heap.size, 0, none⟩)] encZ (fun ss => ss.Perm (intKeys (dat m))) (Maps.size (dat m)) (w.alloc (.cells #[.map (some b)] 119)) :=
    AnyZI.keys_gives (ρ := Tryz.keysB_ren) { Tryz.keysB with } Fence.wide _ trivial rfl (by omega) w.heap.size b m.length (dat m) _ (by simp) (by simp) (by
      obtain ⟨es, clock, hb, Ft, hs, hD⟩ := hown
      exact ⟨es, clock, (Below.heap_alloc _ _ b hbl).trans hb, Ft, hs, hD⟩)
  have cS := AnyZI.sorted_in Tryz.sortedA Fence.wide 5 trivial trivial trivial trivial rfl (by omega) (sorts _) (enters_of Tryz.func143 (by kernel_rfl) rfl) 155 #[.pointer (some ⟨w.heap.size, 0, none⟩)] trivial (enters_of Tryz.func155 (by kernel_rfl) rfl) _ _ (by rw [hsz]; unfold maxLen; omega) (by rw [hsz]; omega) _ hseq
  refine (callsIn_wide (n := 5)).1 (cS.mono ?_)
  rintro e w' ⟨v, ss, rfl, hS, hrow, hnil, hb⟩
  rw [dat_keys] at hS
  have e1 : ss.mergeSort (fun x y => decide (x ≤ y)) = m.map (·.1) := by
    rw [mergeSort_of_perm_i hS]
    exact sort_id (by rw [List.pairwise_map]; exact hs)
  have e2 : ss.length = (m.map (·.1)).length := hS.length_eq
  refine ⟨v, rfl, ?_, ((Below.refl _ w).alloc (Nat.le_refl _) _).trans (hb.mono (by simp))⟩
  rw [e1, e2] at hrow
  exact own_weaken hrow (by simp)
set_option maxHeartbeats 1000000 in
theorem sortedA_c (b : Nat) (m : IMap) (w : World) (hown : MapAt Tryz.prog w b m) (hs : MSorted m) (hl : m.length ≤ 1000000) :
    Calls Tryz.prog 78 #[.func (.func 144) #[] #[.pointer (some ⟨w.heap.size, 0, none⟩)]] (w.alloc (.cells #[.map (some b)] 122)) fun e w' =>
      ∃ v, e = .returned v ∧ OwnI w' w.heap.size v (m.map (·.1)) ∧ Below w.heap.size w w' := by
  have hsz : Maps.size (dat m) = m.length := dat_size m
  have hbl := World.ownsMap.lt hown
  have hseq : SeqGives Fence.wide 2 Tryz.prog 144 #[.pointer (some ⟨w.heap.size, 0, none⟩)] encZ (fun ss => ss.Perm (intKeys (dat m))) (Maps.size (dat m)) (w.alloc (.cells #[.map (some b)] 122)) :=
    AnyZI.keys_gives (ρ := Tryz.keysA_ren) { Tryz.keysA with } Fence.wide _ trivial rfl (by omega) w.heap.size b m.length (dat m) _ (by simp) (by simp) (by
      obtain ⟨es, clock, hb, Ft, hs, hD⟩ := hown
      exact ⟨es, clock, (Below.heap_alloc _ _ b hbl).trans hb, Ft, hs, hD⟩)
  have cS := AnyZI.sorted_in Tryz.sortedA Fence.wide 5 trivial trivial trivial trivial rfl (by omega) (sorts _) (enters_of Tryz.func143 (by kernel_rfl) rfl) 144 #[.pointer (some ⟨w.heap.size, 0, none⟩)] trivial (enters_of Tryz.func144 (by kernel_rfl) rfl) _ _ (by rw [hsz]; unfold maxLen; omega) (by rw [hsz]; omega) _ hseq
  refine (callsIn_wide (n := 5)).1 (cS.mono ?_)
  rintro e w' ⟨v, ss, rfl, hS, hrow, hnil, hb⟩
  rw [dat_keys] at hS
  have e1 : ss.mergeSort (fun x y => decide (x ≤ y)) = m.map (·.1) := by
    rw [mergeSort_of_perm_i hS]
    exact sort_id (by rw [List.pairwise_map]; exact hs)
  have e2 : ss.length = (m.map (·.1)).length := hS.length_eq
  refine ⟨v, rfl, ?_, ((Below.refl _ w).alloc (Nat.le_refl _) _).trans (hb.mono (by simp))⟩
  rw [e1, e2] at hrow
  exact own_weaken hrow (by simp)
theorem gmap_sorted {w : World} {bd bm : Nat} {L : List G} (h : DevAt w bd bm L) : MSorted (gmap L) := by
  unfold MSorted gmap; rw [List.pairwise_map]; exact h.sorted
def dIds (D : List D1) : List Int := D.map (·.1)
theorem ids_any (bd bm : Nat) (L : List G) (w : World) (h : DevAt w bd bm L) (hl : L.length ≤ 1000000) :
    Calls Tryz.prog 33 #[.pointer (some ⟨bd, 0, none⟩)] w fun e w' => (∃ v, e = .returned v ∧ OwnI w' w.heap.size v (dIds (ab L))) ∧ Below w.heap.size w w' := by
  have hbx := h.bd_cell
  have hc := sortedB_c bm (gmap L) w h.map (gmap_sorted h) (by simpa [gmap] using hl)
  have hk := keysB_c (some bm) w
  have e1 : (gmap L).map (·.1) = dIds (ab L) := by simp [gmap, dIds, ab, Function.comp_def]
  rw [e1] at hc
  have HC := Lib.hid hc
  have HK := Lib.hid hk
  clear hc hk h e1
  go_enter Tryz.func33, Tryz.ntmps33
  go_wp2_with (first | (go_at_call 96; refine HK.out.mono ?_; rintro e w' ⟨rfl, rfl⟩) | (go_at_call 78; refine HC.out.mono ?_; rintro e w' ⟨v, rfl, hO, hb⟩))
  go_ret
  exact ⟨⟨v, rfl, hO⟩, hb⟩
def dFil (D : List D1) (id : Int) : List ByteArray := match D.find? fun x => x.1 == id with | some x => x.2.1 | none => []
set_option maxRecDepth 100000 in
theorem filters_any (id : Int) (bd bm : Nat) (L : List G) (w : World) (h : DevAt w bd bm L) (hid : -9223372036854775808 ≤ id ∧ id ≤ 9223372036854775807) (hl : ∀ x ∈ L, x.F.length ≤ 1000000) :
    Calls Tryz.prog 22 #[.pointer (some ⟨bd, 0, none⟩), .int .i64 id] w fun e w' => (∃ v, e = .returned v ∧ OwnS w' w.heap.size v (dFil (ab L) id)) ∧ Below w.heap.size w w' := by
  have hfd := gfind L id
  have hfa := ab_find L id
  have hbx := h.bd_cell
  have HM := Lib.hid h.map
  have HW := Lib.hid (wf64 hid)
  cases hf : L.find? fun x => x.id == id with
  | none =>
    have hj : dFil (ab L) id = [] := by unfold dFil; rw [hfa, hf]; rfl
    rw [hj]
    rw [hf] at hfd
    have HF := Lib.hid hfd
    clear hj hf hfa hfd h
    go_enter Tryz.func22, Tryz.ntmps22
    go_wp2_with (at_lookup; go_must (refine wp_look h3u rfl _ _ 119 rfl 125 Tryz.underlying119 (.pointer none) (zero125 _) bm (gmap L) rfl HM.out id rfl HW.out ?_); rw [HF.out]; dsimp only [Option.map_none, Option.getD_none])
    go_ret
    exact ⟨⟨_, rfl, World.ownsRow_nil _ _ _ _⟩, Below.refl _ _⟩
  | some y =>
    have hj : dFil (ab L) id = y.F := by unfold dFil; rw [hfa, hf]; rfl
    rw [hj]
    rw [hf] at hfd
    have HF := Lib.hid hfd
    have hy : y ∈ L := List.mem_of_find?_eq_some hf
    obtain ⟨vf, hob, hrf, hmf⟩ := h.ones y hy
    have hlf := hl y hy
    have c0 : w.cell? ⟨y.bo, 0, none⟩ = some vf := by rw [cell_arr hob]; rfl
    have HC := Lib.hid (clone_any vf y.F w hrf (by omega))
    clear hj hf hfa hfd h hob hrf hmf hl
    go_enter Tryz.func22, Tryz.ntmps22
    go_wp2_with (first | (at_lookup; go_must (refine wp_look h3u rfl _ _ 119 rfl 125 Tryz.underlying119 (.pointer none) (zero125 _) bm (gmap L) rfl HM.out id rfl HW.out ?_); rw [HF.out]; dsimp only [Option.map_some, Option.getD_some]) | (go_at_call 80; refine HC.out.mono ?_; rintro e w' ⟨v, rfl, hO, hb⟩))
    go_ret
    exact ⟨⟨v, rfl, hO⟩, hb⟩
end Go.Proofs.YtjabhhpmofodlaaGreatDoor
