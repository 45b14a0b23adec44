/- What a *device.Devices reads as. New, Join, Leave. -/
import Derived.Test.YtjabhhpmofodlaaGreatDoorE4
namespace Go.Proofs.YtjabhhpmofodlaaGreatDoor
open Go.RowKit
set_option linter.unusedVariables false
set_option linter.unusedSimpArgs false
theorem h3u : Tryz.prog.underlying 3 = some (.int .i64) := Tryz.underlying3
/-- A device with the blocks where it lies. -/
structure G where
  id : Int
  bo : Nat
  bk : Nat
  F : List ByteArray
  M : List Mk
def gmap (L : List G) : IMap := L.map fun x => (x.id, .pointer (some ⟨x.bo, 0, none⟩))
def mmap (M : List Mk) : IMap := M.map fun m => (m.1, .int .i64 m.2)
def OneAt (w : World) (x : G) : Prop := ∃ vf, w.heap[x.bo]? = some (.cells #[vf, .map (some x.bk)] 124) ∧ RAt w w.heap.size vf (strs x.F) ∧ MapAt Tryz.prog w x.bk (mmap x.M)
structure DevAt (w : World) (bd bm : Nat) (L : List G) : Prop where
  box : w.heap[bd]? = some (.cells #[.map (some bm)] 121)
  map : MapAt Tryz.prog w bm (gmap L)
  ones : ∀ x ∈ L, OneAt w x
  sorted : L.Pairwise fun a b => a.id < b.id
  bos : (L.map (·.bo)).Nodup
  bks : (L.map (·.bk)).Nodup
  bm_ne : ∀ x ∈ L, x.bk ≠ bm
abbrev D1 := Int × List ByteArray × List Mk
def ab (L : List G) : List D1 := L.map fun x => (x.id, x.F, x.M)
def foot (bm : Nat) (L : List G) (i : Nat) : Prop := i = bm ∨ ∃ x ∈ L, i = x.bo ∨ i = x.bk
/-- Devices turn: the new reading, the new footprint, the frame. -/
def Step (w : World) (bd bm : Nat) (L : List G) (w' : World) (D' : List D1) : Prop :=
  ∃ L', DevAt w' bd bm L' ∧ ab L' = D' ∧ (∀ i, foot bm L' i → foot bm L i ∨ w.heap.size ≤ i) ∧ Turn (foot bm L) w w'
/-- A block that holds slices and maps alone. -/
def Dull (w : World) (i : Nat) : Prop := ∀ j u, w.cell? ⟨i, j, none⟩ = some u → (∃ p n c, u = .slice p n c) ∨ ∃ b, u = .map b
theorem dull_map {w : World} {i : Nat} {es : Array MapEntry} {c : Nat} (h : w.heap[i]? = some (.map es c)) : Dull w i := by
  intro j u hu; unfold World.cell? at hu; simp [h] at hu
theorem MapAt.dull {P : Program} {w : World} {b : Nat} {m : IMap} (h : MapAt P w b m) : Dull w b := by obtain ⟨es, c, hb, _⟩ := h; exact dull_map hb
theorem OneAt.dull {w : World} {x : G} (h : OneAt w x) : Dull w x.bo ∧ Dull w x.bk := by
  obtain ⟨vf, h1, ⟨p, cap, rfl, _⟩, h3⟩ := h
  refine ⟨?_, h3.dull⟩
  intro j u hu
  rw [cell_arr h1] at hu
  match j, hu with
  | 0, hu => simp at hu; exact .inl ⟨_, _, _, hu.symm⟩
  | 1, hu => simp at hu; exact .inr ⟨_, hu.symm⟩
  | j + 2, hu => simp at hu
theorem DevAt.dull {w : World} {bd bm : Nat} {L : List G} (h : DevAt w bd bm L) : ∀ i, foot bm L i → Dull w i := by
  rintro i (rfl | ⟨x, hx, rfl | rfl⟩)
  · exact h.map.dull
  · exact (h.ones x hx).dull.1
  · exact (h.ones x hx).dull.2
theorem RAt.turn {w w' : World} {B : Nat} {v : Value} {xs : List ByteArray} {S : Nat → Prop} (h : RAt w B v (strs xs)) (ht : Turn S w w') (hS : ∀ i, S i → Dull w i) : RAt w' B v (strs xs) := by
  obtain ⟨p, cap, rfl, hc⟩ := h
  refine ⟨p, cap, rfl, fun j hj => ?_⟩
  obtain ⟨g, hp, hg, hcell⟩ := hc j hj
  refine ⟨g, hp, hg, ?_⟩
  have hlt := World.block_lt_of_cell? w _ hcell
  have hn : ¬ S g := fun hs => by have := hS g hs _ _ hcell; simp [strs] at this
  exact (World.cell?_of_block (w := w) (ht.block g hlt hn)).trans hcell
theorem MsAt.turn {w w' : World} {B : Nat} {v : Value} {ms : List Mk} {S : Nat → Prop} (h : MsAt w B v ms) (ht : Turn S w w') (hS : ∀ i, S i → Dull w i) : MsAt w' B v ms := by
  obtain ⟨p, cap, rfl, hc⟩ := h
  refine ⟨p, cap, rfl, fun j hj => ?_⟩
  obtain ⟨g, hp, hg, h1, h2⟩ := hc j hj
  have hlt := World.block_lt_of_cell? w _ h1
  have hn : ¬ S g := fun hs => by have := hS g hs _ _ h1; simp at this
  exact ⟨g, hp, hg, (World.cell?_of_block (w := w) (ht.block g hlt hn)).trans h1, (World.cell?_of_block (w := w) (ht.block g hlt hn)).trans h2⟩
theorem OneAt.turn {w w' : World} {x : G} {S : Nat → Prop} (h : OneAt w x) (ht : Turn S w w') (hS : ∀ i, S i → Dull w i) (h1 : ¬ S x.bo) (h2 : ¬ S x.bk) : OneAt w' x := by
  obtain ⟨vf, hb, hr, hm⟩ := h
  exact ⟨vf, (ht.block _ (Array.getElem?_eq_some_iff.1 hb).1 h1).trans hb, (hr.turn ht hS).mono ht.size, hm.turn ht h2⟩
theorem DevAt.turn {w w' : World} {bd bm : Nat} {L : List G} {S : Nat → Prop} (h : DevAt w bd bm L) (ht : Turn S w w') (hS : ∀ i, S i → Dull w i) (h1 : ¬ S bd) (h2 : ∀ i, foot bm L i → ¬ S i) : DevAt w' bd bm L :=
  ⟨(ht.block _ (Array.getElem?_eq_some_iff.1 h.box).1 h1).trans h.box, h.map.turn ht (h2 _ (.inl rfl)), fun x hx => (h.ones x hx).turn ht hS (h2 _ (.inr ⟨x, hx, .inl rfl⟩)) (h2 _ (.inr ⟨x, hx, .inr rfl⟩)), h.sorted, h.bos, h.bks, h.bm_ne⟩
theorem DevAt.below {w w' : World} {bd bm : Nat} {L : List G} (h : DevAt w bd bm L) (hb : Below w.heap.size w w') : DevAt w' bd bm L :=
  h.turn (Turn.of_below' (S := fun _ => False) hb) (by simp) (by simp) (by simp)
theorem gfind (L : List G) (id : Int) : mget (gmap L) id = (L.find? fun x => x.id == id).map fun x => .pointer (some ⟨x.bo, 0, none⟩) := by
  unfold mget gmap
  rw [List.find?_map, Option.map_map]
  rfl
theorem DevAt.bd_cell {w : World} {bd bm : Nat} {L : List G} (h : DevAt w bd bm L) : w.cell? ⟨bd, 0, none⟩ = some (.map (some bm)) := by rw [cell_arr h.box]; rfl
theorem ab_find (L : List G) (id : Int) : ((ab L).find? fun x => x.1 == id) = (L.find? fun x => x.id == id).map fun x => (x.id, x.F, x.M) := by
  unfold ab
  rw [List.find?_map]; rfl
theorem new_any (w : World) : Calls Tryz.prog 20 #[] w fun e w' => (∃ bd bm, e = .returned (.pointer (some ⟨bd, 0, none⟩)) ∧ w.heap.size ≤ bd ∧ w.heap.size ≤ bm ∧ DevAt w' bd bm []) ∧ Below w.heap.size w w' := by
  have hmm := @run_makeMap Tryz.prog
  go_enter Tryz.func20, Tryz.ntmps20
  go_wp2
  go_ret
  refine ⟨⟨_, _, rfl, by simp, Nat.le_refl _, ?_⟩, below_al (below_al (Below.refl _ _) _) _⟩
  exact ⟨by simpa using World.alloc_heap_new (w.alloc (.map #[] 0)) (.cells #[.map (some w.heap.size)] 121), (MapAt.made w).alloc _, by simp, by simp, by simp, by simp, by simp⟩
/-! ### the rows' own laws -/
def insG (x : G) : List G → List G
  | [] => [x]
  | y :: r => if x.id < y.id then x :: y :: r else y :: insG x r
theorem gmap_ins (x : G) (L : List G) : gmap (insG x L) = mins (x.id, .pointer (some ⟨x.bo, 0, none⟩)) (gmap L) := by
  induction L with
  | nil => rfl
  | cons y r ih =>
    simp only [insG, gmap, List.map_cons, mins] at *
    split <;> simp [ih]
theorem mem_insG {x p : G} {L : List G} : p ∈ insG x L ↔ p = x ∨ p ∈ L := by
  induction L with
  | nil => simp [insG]
  | cons y r ih => unfold insG; split <;> simp [ih]; grind
theorem perm_insG (x : G) (L : List G) : (insG x L).Perm (x :: L) := by
  induction L with
  | nil => exact .refl _
  | cons y r ih =>
    unfold insG
    split
    · exact .refl _
    · exact (List.Perm.cons y ih).trans (List.Perm.swap x y r)
theorem sorted_insG {x : G} {L : List G} (h : L.Pairwise fun a b => a.id < b.id) (hx : ∀ p ∈ L, p.id ≠ x.id) : (insG x L).Pairwise fun a b => a.id < b.id := by
  induction L with
  | nil => simp [insG]
  | cons y r ih =>
    unfold insG
    rw [List.pairwise_cons] at h
    split
    · rename_i hl
      simp only [List.pairwise_cons, List.mem_cons]
      refine ⟨?_, h.1, h.2⟩
      rintro p (rfl | hp)
      · exact hl
      · have := h.1 p hp; omega
    · rename_i hl
      rw [List.pairwise_cons]
      refine ⟨?_, ih h.2 fun p hp => hx p (by simp [hp])⟩
      intro p hp
      rcases mem_insG.1 hp with rfl | hp
      · have := hx y (by simp); omega
      · exact h.1 p hp
def dIns (x : D1) : List D1 → List D1
  | [] => [x]
  | y :: r => if x.1 < y.1 then x :: y :: r else y :: dIns x r
theorem ab_ins (x : G) (L : List G) : ab (insG x L) = dIns (x.id, x.F, x.M) (ab L) := by
  induction L with
  | nil => rfl
  | cons y r ih =>
    simp only [insG, ab, List.map_cons, dIns] at *
    split <;> simp [ih]
theorem gmap_del (L : List G) (id : Int) : mdel (gmap L) id = gmap (L.filter fun x => !(x.id == id)) := by
  unfold mdel gmap
  rw [List.filter_map]; rfl
def dJoin (D : List D1) (id : Int) : Int × List D1 :=
  if id < 0 ∨ maxNum < id then (1, D) else if (D.find? fun x => x.1 == id).isSome then (9, D) else if 16 ≤ D.length then (7, D) else (0, dIns (id, [], []) D)
theorem step_refl {w : World} {bd bm : Nat} {L : List G} {w' : World} (h : DevAt w bd bm L) (hb : Below w.heap.size w w') : Step w bd bm L w' (ab L) :=
  ⟨L, h.below hb, rfl, fun _ h => .inl h, Turn.of_below' hb⟩
theorem DevAt.bd_ne {w : World} {bd bm : Nat} {L : List G} (h : DevAt w bd bm L) : bd ≠ bm ∧ ∀ x ∈ L, bd ≠ x.bo ∧ bd ≠ x.bk ∧ x.bo ≠ bm ∧ ∀ y ∈ L, x.bo ≠ y.bk := by
  obtain ⟨es, c, hb, _⟩ := h.map
  refine ⟨fun e => ?_, fun x hx => ?_⟩
  · have := h.box; rw [e, hb] at this; cases this
  · obtain ⟨vf, h1, h2, ⟨es2, c2, h3, _⟩⟩ := h.ones x hx
    refine ⟨fun e => ?_, fun e => ?_, fun e => ?_, fun y hy e => ?_⟩
    · have := h.box; rw [e, h1] at this; cases this
    · have := h.box; rw [e, h3] at this; cases this
    · rw [e, hb] at h1; cases h1
    · obtain ⟨_, _, _, ⟨es3, c3, h4, _⟩⟩ := h.ones y hy
      rw [e, h4] at h1; cases h1
theorem DevAt.lt {w : World} {bd bm : Nat} {L : List G} (h : DevAt w bd bm L) : ∀ i, foot bm L i → i < w.heap.size := by
  rintro i (rfl | ⟨x, hx, rfl | rfl⟩)
  · exact h.map.lt
  · obtain ⟨vf, h1, _⟩ := h.ones x hx; exact (Array.getElem?_eq_some_iff.1 h1).1
  · obtain ⟨vf, _, _, h3⟩ := h.ones x hx; exact h3.lt
theorem DevAt.insert {w w' : World} {bd bm : Nat} {L : List G} (h : DevAt w bd bm L) (x : G) (hx : OneAt w' x) (ht : Turn (· = bm) w w') (hm : MapAt Tryz.prog w' bm (mput (gmap L) x.id (.pointer (some ⟨x.bo, 0, none⟩)))) (hn : ∀ p ∈ L, p.id ≠ x.id) (n : Nat) (hlt : ∀ i, foot bm L i → i < n) (hbo : n ≤ x.bo) (hbk : n ≤ x.bk) :
    DevAt w' bd bm (insG x L) := by
  have hne := h.bd_ne
  refine ⟨?_, ?_, ?_, sorted_insG h.sorted hn, ?_, ?_, ?_⟩
  · exact (ht.block _ (Array.getElem?_eq_some_iff.1 h.box).1 hne.1).trans h.box
  · have e : mput (gmap L) x.id (.pointer (some ⟨x.bo, 0, none⟩)) = gmap (insG x L) := by
      unfold mput
      rw [mdel_none, gmap_ins]
      rw [mget_none]
      intro p hp
      simp only [gmap, List.mem_map] at hp
      obtain ⟨y, hy, rfl⟩ := hp
      exact hn y hy
    rw [← e]; exact hm
  · intro p hp
    rcases mem_insG.1 hp with rfl | hp
    · exact hx
    · refine (h.ones p hp).turn ht ?_ (hne.2 p hp).2.2.1 (h.bm_ne p hp)
      rintro i rfl
      exact h.map.dull
  · have hp := (perm_insG x L).map (·.bo)
    rw [hp.nodup_iff, List.map_cons, List.nodup_cons]
    refine ⟨fun hm => ?_, h.bos⟩
    obtain ⟨y, hy, e⟩ := List.mem_map.1 hm
    have := hlt y.bo (.inr ⟨y, hy, .inl rfl⟩)
    omega
  · have hp := (perm_insG x L).map (·.bk)
    rw [hp.nodup_iff, List.map_cons, List.nodup_cons]
    refine ⟨fun hm => ?_, h.bks⟩
    obtain ⟨y, hy, e⟩ := List.mem_map.1 hm
    have := hlt y.bk (.inr ⟨y, hy, .inr rfl⟩)
    omega
  · intro p hp
    rcases mem_insG.1 hp with rfl | hp
    · have := hlt bm (.inl rfl); omega
    · exact h.bm_ne p hp
theorem wf64 {n : Int} (h : -9223372036854775808 ≤ n ∧ n ≤ 9223372036854775807) : (Lit.int .i64 n).wf = true := by
  simp [Lit.wf, IntKind.min, IntKind.max, IntKind.bits, IntKind.signed]; omega
theorem zero125 (w : World) : (zeroValue 125).run Tryz.prog w = .ok (.pointer none) w := by kernel_rfl
theorem zero3 (w : World) : (zeroValue 3).run Tryz.prog w = .ok (.int .i64 0) w := by kernel_rfl
set_option maxRecDepth 100000 in
set_option maxHeartbeats 2000000 in
theorem join_any (id : Int) (bd bm : Nat) (L : List G) (w : World) (h : DevAt w bd bm L) (hl : L.length ≤ 1000000) :
    Calls Tryz.prog 23 #[.pointer (some ⟨bd, 0, none⟩), .int .i64 id] w fun e w' => e = .returned (.int .i64 (dJoin (ab L) id).1) ∧ Step w bd bm L w' (dJoin (ab L) id).2 := by
  have hfd := gfind L id
  have hfa := ab_find L id
  have hbx := h.bd_cell
  have hlen := h.map.len (t := 119) Tryz.underlying119
  have hgl : (gmap L).length = L.length := by simp [gmap]
  have hal : (ab L).length = L.length := by simp [ab]
  have HH := Lib.hid h
  have HM := Lib.hid h.map
  clear h
  by_cases h1 : id < 0 ∨ maxNum < id
  · have hj : dJoin (ab L) id = (1, ab L) := by unfold dJoin; rw [if_pos h1]
    rw [hj]
    clear hj
    have h1' : id < 0 ∨ 1099511627776 < id := h1
    go_enter Tryz.func23, Tryz.ntmps23
    go_wp2
    all_goals go_ret
    all_goals (exact ⟨rfl, step_refl HH.out (Below.refl _ _)⟩)
  · have h1' : 0 ≤ id ∧ id ≤ 1099511627776 := by unfold maxNum at h1; omega
    have hwf : (Lit.int .i64 id).wf = true := wf64 (by omega)
    have HW := Lib.hid hwf
    clear hwf h1
    cases hf : L.find? fun x => x.id == id with
    | some y =>
      have hj : dJoin (ab L) id = (9, ab L) := by unfold dJoin; rw [if_neg (by unfold maxNum; omega), hfa, hf]; rfl
      rw [hj]
      rw [hf] at hfd
      have HF := Lib.hid hfd
      clear hj hf hfa hfd
      go_enter Tryz.func23, Tryz.ntmps23
      go_wp2_with (at_lookup; go_must (refine wp_look h3u rfl _ _ 119 rfl 125 Tryz.underlying119 (.pointer none) (zero125 _) bm (gmap L) rfl HM.out id rfl HW.out ?_); rw [HF.out]; dsimp only [Option.map_some, Option.getD_some])
      go_ret
      exact ⟨rfl, step_refl HH.out (Below.refl _ _)⟩
    | none =>
      rw [hf] at hfd
      have HF := Lib.hid hfd
      have hnm : ∀ p ∈ L, p.id ≠ id := by
        rw [List.find?_eq_none] at hf
        intro p hp; simpa using hf p hp
      have HN := Lib.hid hnm
      rw [hf] at hfa
      clear hfd hnm
      by_cases h16 : 16 ≤ L.length
      · have hj : dJoin (ab L) id = (7, ab L) := by unfold dJoin; rw [if_neg (by unfold maxNum; omega), hfa]; simp [hal, h16]
        rw [hj]
        clear hj hf hfa
        go_enter Tryz.func23, Tryz.ntmps23
        go_wp2_with (at_lookup; go_must (refine wp_look h3u rfl _ _ 119 rfl 125 Tryz.underlying119 (.pointer none) (zero125 _) bm (gmap L) rfl HM.out id rfl HW.out ?_); rw [HF.out]; dsimp only [Option.map_none, Option.getD_none])
        go_ret
        exact ⟨rfl, step_refl HH.out (Below.refl _ _)⟩
      · have hj : dJoin (ab L) id = (0, dIns (id, [], []) (ab L)) := by unfold dJoin; rw [if_neg (by unfold maxNum; omega), hfa]; simp [hal, h16]
        rw [hj]
        clear hj hf hfa
        have hmm := @run_makeMap Tryz.prog
        go_enter Tryz.func23, Tryz.ntmps23
        go_wp2_with (first | (at_lookup; go_must (refine wp_look h3u rfl _ _ 119 rfl 125 Tryz.underlying119 (.pointer none) (zero125 _) bm (gmap L) rfl HM.out id rfl HW.out ?_); rw [HF.out]; dsimp only [Option.map_none, Option.getD_none]) | (at_mapUpdate; go_must (refine wp_mput h3u rfl _ _ _ 119 rfl 125 Tryz.underlying119 bm (gmap L) rfl ((HM.out.alloc _).alloc _) (by unfold maxLen; omega) id (.pointer (some ⟨w.heap.size + 1, 0, none⟩)) rfl rfl HW.out ?_); intro w1 hm1 ht1))
        go_ret
        refine ⟨rfl, ?_⟩
        obtain ⟨W2, hW2⟩ : ∃ W2, (w.alloc (.map #[] 0)).alloc (.cells #[.slice none 0 0, .map (some w.heap.size)] 124) = W2 := ⟨_, rfl⟩
        have hb2 : Below w.heap.size w W2 := by rw [← hW2]; exact below_al (below_al (Below.refl _ _) _) _
        have hB : W2.heap[w.heap.size + 1]? = some (.cells #[.slice none 0 0, .map (some w.heap.size)] 124) := by
          rw [← hW2]; simpa using World.alloc_heap_new (w.alloc (.map #[] 0)) (.cells #[.slice none 0 0, .map (some w.heap.size)] 124)
        have hM : MapAt Tryz.prog W2 w.heap.size [] := by rw [← hW2]; exact (MapAt.made w).alloc _
        rw [hW2] at ht1
        clear hW2
        have hT : Turn (· = bm) W2 w1 := (Turn.refl _ W2).mapTurned ht1 (fun _ => rfl)
        have hbm := HH.out.lt bm (.inl rfl)
        have hD := (HH.out.below hb2).insert ⟨id, w.heap.size + 1, w.heap.size, [], []⟩ (w' := w1) ⟨.slice none 0 0, (hT.block _ (Array.getElem?_eq_some_iff.1 hB).1 (by omega)).trans hB, RAt.nil _ _, hM.turn hT (by omega)⟩ hT hm1 HN.out w.heap.size HH.out.lt (by simp) (by simp)
        refine ⟨_, hD, ab_ins _ _, ?_, (Turn.of_below' hb2).trans hT (fun i _ e => .inl e)⟩
        rintro i (rfl | ⟨x, hx, hi⟩)
        · exact .inl (.inl rfl)
        · rcases mem_insG.1 hx with rfl | hx
          · right; rcases hi with rfl | rfl <;> simp
          · exact .inl (.inr ⟨x, hx, hi⟩)
/-! ### Leave -/
def dLeave (D : List D1) (id : Int) : Int × List D1 := if (D.find? fun x => x.1 == id).isSome then (0, D.filter fun x => !(x.1 == id)) else (8, D)
theorem ab_filter (L : List G) (id : Int) : ab (L.filter fun x => !(x.id == id)) = (ab L).filter fun x => !(x.1 == id) := by
  unfold ab; rw [List.filter_map]; rfl
theorem DevAt.del {w w' : World} {bd bm : Nat} {L : List G} (h : DevAt w bd bm L) (id : Int) (ht : Turn (· = bm) w w') (hm : MapAt Tryz.prog w' bm (mdel (gmap L) id)) : DevAt w' bd bm (L.filter fun x => !(x.id == id)) := by
  have hne := h.bd_ne
  refine ⟨(ht.block _ (Array.getElem?_eq_some_iff.1 h.box).1 hne.1).trans h.box, by rw [← gmap_del]; exact hm, ?_, h.sorted.filter _, ?_, ?_, ?_⟩
  · intro p hp
    have hp := (List.mem_filter.1 hp).1
    refine (h.ones p hp).turn ht ?_ (hne.2 p hp).2.2.1 (h.bm_ne p hp)
    rintro i rfl
    exact h.map.dull
  · exact h.bos.sublist ((List.filter_sublist).map _)
  · exact h.bks.sublist ((List.filter_sublist).map _)
  · intro p hp
    exact h.bm_ne p (List.mem_filter.1 hp).1
set_option maxRecDepth 100000 in
set_option maxHeartbeats 2000000 in
theorem leave_any (id : Int) (bd bm : Nat) (L : List G) (w : World) (h : DevAt w bd bm L) (hid : -9223372036854775808 ≤ id ∧ id ≤ 9223372036854775807) :
    Calls Tryz.prog 24 #[.pointer (some ⟨bd, 0, none⟩), .int .i64 id] w fun e w' => e = .returned (.int .i64 (dLeave (ab L) id).1) ∧ Step w bd bm L w' (dLeave (ab L) id).2 := by
  have hfd := gfind L id
  have hfa := ab_find L id
  have hbx := h.bd_cell
  have HH := Lib.hid h
  have HM := Lib.hid h.map
  clear h
  have HW := Lib.hid (wf64 hid)
  cases hf : L.find? fun x => x.id == id with
  | none =>
    have hj : dLeave (ab L) id = (8, ab L) := by unfold dLeave; rw [hfa, hf]; rfl
    rw [hj]
    rw [hf] at hfd
    have HF := Lib.hid hfd
    clear hj hf hfa hfd
    go_enter Tryz.func24, Tryz.ntmps24
    go_wp2_with (at_lookup; go_must (refine wp_look h3u rfl _ _ 119 rfl 125 Tryz.underlying119 (.pointer none) (zero125 _) bm (gmap L) rfl HM.out id rfl HW.out ?_); rw [HF.out]; dsimp only [Option.map_none, Option.getD_none])
    go_ret
    exact ⟨rfl, step_refl HH.out (Below.refl _ _)⟩
  | some y =>
    have hj : dLeave (ab L) id = (0, (ab L).filter fun x => !(x.1 == id)) := by unfold dLeave; rw [hfa, hf]; rfl
    rw [hj]
    rw [hf] at hfd
    have HF := Lib.hid hfd
    clear hj hf hfa hfd
    go_enter Tryz.func24, Tryz.ntmps24
    go_wp2_with (first | (at_lookup; go_must (refine wp_look h3u rfl _ _ 119 rfl 125 Tryz.underlying119 (.pointer none) (zero125 _) bm (gmap L) rfl HM.out id rfl HW.out ?_); rw [HF.out]; dsimp only [Option.map_some, Option.getD_some]) | (at_delete; go_must (refine wp_mdel h3u rfl _ _ 119 rfl 125 Tryz.underlying119 bm (gmap L) rfl HM.out id rfl HW.out ?_); intro w1 hm1 ht1))
    go_ret
    have hT : Turn (· = bm) w w1 := (Turn.refl _ w).mapTurned ht1 (fun _ => rfl)
    refine ⟨rfl, _, HH.out.del id hT hm1, ab_filter _ _, ?_, hT.mono fun i _ e => .inl e⟩
    rintro i (rfl | ⟨x, hx, hi⟩)
    · exact .inl (.inl rfl)
    · exact .inl (.inr ⟨x, (List.mem_filter.1 hx).1, hi⟩)
end Go.Proofs.YtjabhhpmofodlaaGreatDoor
