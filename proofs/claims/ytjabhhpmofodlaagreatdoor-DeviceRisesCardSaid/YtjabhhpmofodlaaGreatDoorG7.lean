/- Marks are put; device.Offer's region. -/
import Derived.Test.YtjabhhpmofodlaaGreatDoorG6
import Derived.Test.YtjabhhpmofodlaaGreatDoorP1
namespace Go.Proofs.YtjabhhpmofodlaaGreatDoor
open Go.RowKit
set_option linter.unusedVariables false
set_option linter.unusedSimpArgs false
theorem put_run {P : Program} {w : World} {b : Nat} {m : IMap} (h3 : P.underlying 3 = some (.int .i64)) (hown : MapAt P w b m) {t e : TypeId} (ht : P.underlying t = some (.map 3 e)) (hn : m.length < maxLen) {k : Int} (val : Value) (hk : (Lit.int .i64 k).wf = true) :
    ∃ w', (Instr.mapUpdate t (.map (some b)) (.int .i64 k) val).run P w = .ok () w' ∧ MapAt P w' b (mput m k val) ∧ w.mapTurned w' b := by
  obtain ⟨w', hrun, h1, h2⟩ := World.ownsMap.store hown (Maps.int_keyed h3) ht hn (d := .held val) (ps := []) (Maps.keyOf_int_mk h3 hk) (val := val) rfl
  rw [dat_put] at h1
  exact ⟨w', hrun, own_tight h1, h2⟩
def insM (x : Mk) : List Mk → List Mk
  | [] => [x]
  | y :: r => if x.1 < y.1 then x :: y :: r else y :: insM x r
def putM (M : List Mk) (o s : Int) : List Mk := insM (o, s) (M.filter fun m => !(m.1 == o))
theorem mmap_ins (x : Mk) (M : List Mk) : mmap (insM x M) = mins (x.1, .int .i64 x.2) (mmap M) := by
  induction M with
  | nil => rfl
  | cons y r ih =>
    simp only [insM, mmap, List.map_cons, mins] at *
    split <;> simp [ih]
theorem mmap_put (M : List Mk) (o s : Int) : mput (mmap M) o (.int .i64 s) = mmap (putM M o s) := by
  unfold mput putM
  rw [mmap_ins]
  congr 1
  unfold mdel mmap
  rw [List.filter_map]; rfl
theorem insM_last {x : Mk} {M : List Mk} (h : ∀ m ∈ M, m.1 < x.1) : insM x M = M ++ [x] := by
  induction M with
  | nil => rfl
  | cons y r ih =>
    unfold insM
    rw [if_neg (by have := h y (by simp); omega), ih fun m hm => h m (by simp [hm])]; rfl
theorem putM_take {ms : List Mk} (h : ms.Pairwise fun a b => a.1 < b.1) (k : Nat) (hk : k < ms.length) : putM (ms.take k) ms[k].1 ms[k].2 = ms.take (k + 1) := by
  have hlt : ∀ m ∈ ms.take k, m.1 < ms[k].1 := by
    intro m hm
    obtain ⟨j, hj, e⟩ := List.getElem_of_mem hm
    rw [List.getElem_take] at e
    have hj' : j < k := by simp at hj; omega
    have := List.pairwise_iff_getElem.1 h j k (by omega) hk hj'
    rw [e] at this; exact this
  unfold putM
  rw [List.filter_eq_self.2 (by intro m hm; have := hlt m hm; simp; omega), insM_last hlt, List.take_add_one]
  simp [hk]
def setM (L : List G) (id : Int) (M : List Mk) : List G := L.map fun x => if x.id == id then { x with M := M } else x
theorem ab_setM (L : List G) (id : Int) (M : List Mk) : ab (setM L id M) = dSetM (ab L) id M := by
  unfold ab setM dSetM
  rw [List.map_map, List.map_map]
  apply List.map_congr_left
  intro x _
  simp only [Function.comp_apply]
  split <;> rfl
theorem gmap_setM (L : List G) (id : Int) (M : List Mk) : gmap (setM L id M) = gmap L := by
  unfold gmap setM
  rw [List.map_map]; apply List.map_congr_left; intro x _; simp only [Function.comp_apply]; split <;> rfl
theorem setM_mem {L : List G} {y : G} (hy : y ∈ L) (M : List Mk) : { y with M := M } ∈ setM L y.id M := List.mem_map.2 ⟨y, hy, by simp⟩
theorem DevAt.setM {w w' : World} {bd bm : Nat} {L : List G} (h : DevAt w bd bm L) {y : G} (hy : y ∈ L) (M : List Mk) (hT : Turn (· = y.bk) w w') (hM : MapAt Tryz.prog w' y.bk (mmap M)) : DevAt w' bd bm (setM L y.id M) := by
  have hne := h.bd_ne
  have hdy := (h.ones y hy).dull.2
  have hD : ∀ i, i = y.bk → Dull w i := by rintro i rfl; exact hdy
  refine ⟨(hT.block _ (Array.getElem?_eq_some_iff.1 h.box).1 (hne.2 y hy).2.1).trans h.box, ?_, ?_, ?_, ?_, ?_, ?_⟩
  · have : gmap (Proofs.YtjabhhpmofodlaaGreatDoor.setM L y.id M) = gmap L := by
      unfold gmap Proofs.YtjabhhpmofodlaaGreatDoor.setM
      rw [List.map_map]; apply List.map_congr_left; intro x _; simp only [Function.comp_apply]; split <;> rfl
    rw [this]; exact h.map.turn hT (Ne.symm (h.bm_ne y hy))
  · intro x hx
    obtain ⟨x0, hx0, rfl⟩ := List.mem_map.1 hx
    by_cases e : x0.id = y.id
    · obtain rfl := id_unique h.sorted hx0 hy e
      have e' : (x0.id == x0.id) = true := by simp
      simp only [e', if_true]
      obtain ⟨v0, hb, hr0, hm⟩ := h.ones x0 hx0
      exact ⟨v0, (hT.block _ (Array.getElem?_eq_some_iff.1 hb).1 ((hne.2 x0 hx0).2.2.2 x0 hx0)).trans hb, (hr0.turn hT hD).mono hT.size, hM⟩
    · have e' : (x0.id == y.id) = false := by simpa using e
      simp only [e', Bool.false_eq_true, if_false]
      refine (h.ones x0 hx0).turn hT hD ((hne.2 x0 hx0).2.2.2 y hy) (fun e2 => e ?_)
      rw [nodup_map_inj h.bks hx0 hy e2]
  · unfold Proofs.YtjabhhpmofodlaaGreatDoor.setM
    rw [List.pairwise_map]
    refine h.sorted.imp ?_
    intro a b hab
    split <;> split <;> exact hab
  · have : (Proofs.YtjabhhpmofodlaaGreatDoor.setM L y.id M).map (·.bo) = L.map (·.bo) := by
      unfold Proofs.YtjabhhpmofodlaaGreatDoor.setM
      rw [List.map_map]; apply List.map_congr_left; intro x _; simp only [Function.comp_apply]; split <;> rfl
    rw [this]; exact h.bos
  · have : (Proofs.YtjabhhpmofodlaaGreatDoor.setM L y.id M).map (·.bk) = L.map (·.bk) := by
      unfold Proofs.YtjabhhpmofodlaaGreatDoor.setM
      rw [List.map_map]; apply List.map_congr_left; intro x _; simp only [Function.comp_apply]; split <;> rfl
    rw [this]; exact h.bks
  · intro x hx
    obtain ⟨x0, hx0, rfl⟩ := List.mem_map.1 hx
    have := h.bm_ne x0 hx0
    split <;> exact this
theorem foot_setM {L : List G} {id : Int} {M : List Mk} {bm i : Nat} (h : foot bm (setM L id M) i) : foot bm L i := by
  rcases h with rfl | ⟨x, hx, hi⟩
  · exact .inl rfl
  · obtain ⟨x0, hx0, rfl⟩ := List.mem_map.1 hx
    refine .inr ⟨x0, hx0, ?_⟩
    split at hi <;> exact hi
/-- One store into a device's marks, in the world at hand. -/
theorem mark_put {w : World} {bd bm : Nat} {L : List G} (h : DevAt w bd bm L) {y : G} (hy : y ∈ L) (o s : Int) (ho : 0 ≤ o ∧ o ≤ maxNum) (hl : y.M.length ≤ 1000000) :
    ∃ w', (Instr.mapUpdate 122 (.map (some y.bk)) (.int .i64 o) (.int .i64 s)).run Tryz.prog w = .ok () w' ∧ DevAt w' bd bm (setM L y.id (putM y.M o s)) ∧ Turn (foot bm L) w w' := by
  obtain ⟨vf, hb, hr, hm⟩ := h.ones y hy
  obtain ⟨w', h1, h2, h3⟩ := put_run h3u hm (t := 122) Tryz.underlying122 (by simp [mmap, maxLen]; omega) (.int .i64 s) (wf64 (n := o) (by unfold maxNum at ho; omega))
  rw [mmap_put] at h2
  have hT : Turn (· = y.bk) w w' := Turn.mapTurned (S := (· = y.bk)) (Turn.refl _ w) h3 (fun _ => rfl)
  exact ⟨w', h1, h.setM hy _ hT h2, hT.mono fun i _ e => .inr ⟨y, hy, .inr e⟩⟩
/-- A device's cells, in the world at hand. -/
theorem DevAt.one_cell {w : World} {bd bm : Nat} {L : List G} (h : DevAt w bd bm L) {y : G} (hy : y ∈ L) : w.cell? ⟨y.bo, 1, none⟩ = some (.map (some y.bk)) := by
  obtain ⟨vf, hob, _, _⟩ := h.ones y hy
  rw [cell_arr hob]; rfl
theorem DevAt.look {w : World} {bd bm : Nat} {L : List G} (h : DevAt w bd bm L) {id : Int} {y : G} (hid : -9223372036854775808 ≤ id ∧ id ≤ 9223372036854775807) (hg : mget (gmap L) id = some (.pointer (some ⟨y.bo, 0, none⟩))) :
    (Instr.lookup 119 (.map (some bm)) (.int .i64 id) false).run Tryz.prog w = .ok (.pointer (some ⟨y.bo, 0, none⟩)) w := by
  rw [look_run h3u h.map (t := 119) Tryz.underlying119 (zero125 _) (wf64 hid), hg]; rfl
end Go.Proofs.YtjabhhpmofodlaaGreatDoor
