/- The invariant of devices; device.Marks. -/
import Derived.Test.YtjabhhpmofodlaaGreatDoorG2
namespace Go.Proofs.YtjabhhpmofodlaaGreatDoor
open Go.RowKit
set_option linter.unusedVariables false
set_option linter.unusedSimpArgs false
structure XInv (x : D1) : Prop where
  id : 0 ≤ x.1 ∧ x.1 ≤ maxNum
  fl : x.2.1.length ≤ 8
  fs : ∀ f ∈ x.2.1, f.size ≤ 1000000
  ff : ∀ f ∈ x.2.1, filterB f = true
  fo : x.2.1.Pairwise fun a b => fCmp a b < 0
  ms : x.2.2.Pairwise fun a b => a.1 < b.1
  ml : x.2.2.length ≤ 32
  mr : ∀ m ∈ x.2.2, 0 ≤ m.1 ∧ m.1 ≤ maxNum ∧ 1 ≤ m.2 ∧ m.2 ≤ maxNum
structure DInv (D : List D1) : Prop where
  len : D.length ≤ 16
  xs : ∀ x ∈ D, XInv x
  sorted : D.Pairwise fun a b => a.1 < b.1
def dMarks (D : List D1) (id : Int) : List Mk := match D.find? fun x => x.1 == id with | some x => x.2.2 | none => []
theorem ab_mem {L : List G} {y : G} (h : y ∈ L) : (y.id, y.F, y.M) ∈ ab L := List.mem_map.2 ⟨y, h, rfl⟩
theorem mmap_get {M : List Mk} (h : M.Pairwise fun a b => a.1 < b.1) (k : Nat) (hk : k < M.length) : mget (mmap M) M[k].1 = some (.int .i64 M[k].2) := by
  rw [mget_mem (by unfold MSorted mmap; rw [List.pairwise_map]; exact h)]
  exact List.mem_map.2 ⟨M[k], by simp, rfl⟩
theorem OwnI.open_ {w : World} {base : Nat} {v : Value} {l : List Int} (h : OwnI w base v l) (h0 : 0 < l.length) :
    ∃ g cap, v = .slice (some ⟨g, 0, none⟩) l.length cap ∧ g < w.heap.size ∧ base ≤ g ∧ ∀ j (hj : j < l.length), w.cell? ⟨g, j, none⟩ = some (.int .i64 l[j]) := by
  rcases h.2 with ⟨rfl, h2⟩ | ⟨g, cap, cur, rfl, hg, hb, hn, hm, hs, hc⟩
  · omega
  · refine ⟨g, cap, rfl, (Array.getElem?_eq_some_iff.1 hb).1, hg, fun j hj => ?_⟩
    rw [cell_arr hb]
    have : (cur.toList.take (l.length * 1))[j]? = some (.int .i64 l[j]) := by rw [hc]; simp [ints, hj]
    rw [List.getElem?_take] at this
    simp at this
    exact this.2
set_option maxRecDepth 100000 in
set_option maxHeartbeats 4000000 in
theorem dmarks_any (id : Int) (bd bm : Nat) (L : List G) (w : World) (h : DevAt w bd bm L) (hid : -9223372036854775808 ≤ id ∧ id ≤ 9223372036854775807) (hI : DInv (ab L)) :
    Calls Tryz.prog 21 #[.pointer (some ⟨bd, 0, none⟩), .int .i64 id] w fun e w' => (∃ v, e = .returned v ∧ OwnM w' w.heap.size v (dMarks (ab L) id)) ∧ Below w.heap.size w w' := by
  have hfd := gfind L id
  have hfa := ab_find L id
  have hbx := h.bd_cell
  have HM := Lib.hid h.map
  have HW := Lib.hid (wf64 hid)
  cases hf : L.find? fun x => x.id == id with
  | none =>
    have hj : dMarks (ab L) id = [] := by unfold dMarks; rw [hfa, hf]; rfl
    rw [hj]
    rw [hf] at hfd
    have HF := Lib.hid hfd
    clear hj hf hfa hfd h
    go_enter Tryz.func21, Tryz.ntmps21
    go_wp2_with (at_lookup; go_must (refine wp_look h3u rfl _ _ 119 rfl 125 Tryz.underlying119 (.pointer none) (zero125 _) bm (gmap L) rfl HM.out id rfl HW.out ?_); rw [HF.out]; dsimp only [Option.map_none, Option.getD_none])
    go_ret
    exact ⟨⟨_, rfl, World.ownsRow_nil _ _ _ _⟩, Below.refl _ _⟩
  | some y =>
    have hj : dMarks (ab L) id = y.M := by unfold dMarks; rw [hfa, hf]; rfl
    rw [hj]
    rw [hf] at hfd
    have HF := Lib.hid hfd
    have hy : y ∈ L := List.mem_of_find?_eq_some hf
    obtain ⟨vf, hob, hrf, hmf⟩ := h.ones y hy
    have hX := hI.xs _ (ab_mem hy)
    have hML : y.M.length ≤ 32 := hX.ml
    have HX := Lib.hid hX
    have hms : MSorted (mmap y.M) := by unfold MSorted mmap; rw [List.pairwise_map]; exact hX.ms
    have c0 : w.cell? ⟨y.bo, 1, none⟩ = some (.map (some y.bk)) := by rw [cell_arr hob]; rfl
    have HK := Lib.hid (keysA_c (some y.bk) w)
    have e1 : (mmap y.M).map (·.1) = y.M.map (·.1) := by simp [mmap, Function.comp_def]
    have hS := sortedA_c y.bk (mmap y.M) w hmf hms (by simp [mmap]; omega)
    rw [e1] at hS
    have HS := Lib.hid hS
    have HMF := Lib.hid hmf
    clear hj hf hfa hfd h hob hrf hmf hI hX hms hS e1
    obtain ⟨M, hM⟩ : ∃ M, y.M = M := ⟨_, rfl⟩
    have hXX : Hid (M.Pairwise (fun a b => a.1 < b.1) ∧ ∀ m ∈ M, 0 ≤ m.1 ∧ m.1 ≤ maxNum ∧ 1 ≤ m.2 ∧ m.2 ≤ maxNum) := Lib.hid (by rw [← hM]; exact ⟨HX.out.ms, HX.out.mr⟩)
    rw [hM] at HS HMF hML ⊢
    clear HX hM
    obtain ⟨ks, hks⟩ : ∃ ks, M.map (·.1) = ks := ⟨_, rfl⟩
    rw [hks] at HS
    have hkl : ks.length = M.length := by rw [← hks]; simp
    have hkg : ∀ k (h1 : k < M.length) (h2 : k < ks.length), ks[k] = M[k].1 := by intro k h1 h2; subst hks; simp
    have HKG := Lib.hid hkg
    have HKL := Lib.hid hkl
    clear hks hkg hkl
    have hbo := World.block_lt_of_cell? w _ c0
    have hbk := HMF.out.lt
    by_cases h0 : 0 < ks.length
    · go_enter Tryz.func21, Tryz.ntmps21
      go_wp2_with (first | (at_lookup; go_must (refine wp_look h3u rfl _ _ 119 rfl 125 Tryz.underlying119 (.pointer none) (zero125 _) bm (gmap L) rfl HM.out id rfl HW.out ?_); rw [HF.out]; dsimp only [Option.map_some, Option.getD_some]) | (go_at_call 79; refine HK.out.mono ?_; rintro e w' ⟨rfl, rfl⟩) | (go_at_call 78; refine HS.out.mono ?_; rintro e w1 ⟨v, rfl, hO, hb⟩; obtain ⟨g, cap, rfl, hg, hg2, hc⟩ := hO.open_ h0; have HC := Lib.hid hc; clear hc))
      have hbo1 : y.bo < w1.heap.size := Nat.lt_of_lt_of_le hbo hb.size
      have hbk1 : y.bk < w1.heap.size := Nat.lt_of_lt_of_le hbk hb.size
      have hM1 := HMF.out.below hb hbk
      have hc1 := (hb.cell (p := ⟨y.bo, 1, none⟩) hbo).trans c0
      have HM1 := Lib.hid hM1
      have HC1 := Lib.hid hc1
      clear hM1 hc1 c0 HMF hO
      go_loopw [6, 24] (fun v c wr => ∃ k : Nat, k ≤ ks.length ∧ c = .int .i64 k ∧ wr.ownsRow w1.heap.size 47 2 v k (flat (M.take k)) ∧ Below w1.heap.size w1 wr) (fun _ c _ => ks.length - (intOf c).toNat)
      case atStart => exact ⟨0, Nat.zero_le _, rfl, World.ownsRow_nil _ _ _ _, Below.refl _ _⟩
      case round =>
        obtain ⟨k, hk, rfl, hrow, hbr⟩ := hrel
        by_cases hlt : k < ks.length
        · have hkm : k < M.length := by rw [← HKL.out]; exact hlt
          have hck : wr.cell? ⟨g, k, none⟩ = some (.int .i64 ks[k]) := (hbr.cell (p := ⟨g, k, none⟩) hg).trans (HC.out k hlt)
          have hcb : wr.cell? ⟨y.bo, 1, none⟩ = some (.map (some y.bk)) := (hbr.cell (p := ⟨y.bo, 1, none⟩) hbo1).trans HC1.out
          have hmw := Lib.hid (HM1.out.below hbr hbk1)
          have hget := Lib.hid (mmap_get hXX.out.1 k hkm)
          have hrng := hXX.out.2 M[k] (by simp)
          rw [HKG.out k hkm hlt] at hck
          have hFS : flat (M.take k) ++ [.int .i64 M[k].1, .int .i64 M[k].2] = flat (M.take (k + 1)) := by rw [flat_snoc, List.take_add_one]; simp [hkm]
          have HFS := Lib.hid hFS
          clear hFS
          generalize M[k] = x at *
          obtain ⟨o, q⟩ := x
          simp only [maxNum] at hrng hget HFS
          obtain ⟨r1, r2, r3, r4⟩ := hrng
          have hwfo := Lib.hid (wf64 (n := o) (by omega))
          have hkk : k ≤ 32 := by omega
          have hszw : w1.heap.size ≤ wr.heap.size := hbr.size
          go_wp2_with (first | (at_lookup; go_must (refine wp_look h3u rfl _ _ 122 rfl 3 Tryz.underlying122 (.int .i64 0) (zero3 _) y.bk (mmap M) rfl hmw.out o rfl hwfo.out ?_); rw [hget.out]; dsimp only [Option.getD_some]) | (at_builtin; go_must (refine app2 (w0 := wr) (base := w1.heap.size) rfl _ _ 40 47 (.agg #[.int .i64 0, .int .i64 0]) 16 rfl Tryz.underlying40 info47 rfl (by decide) u6 k (flat (M.take k)) (.int .i64 o) (.int .i64 q) rfl rfl rfl rfl hrow (Below.refl _ _) hszw (by omega) ?_); intro v5 w5 hrow5 hb5 hsz5 _ _))
          rw [HFS.out] at hrow5
          exact ⟨⟨k + 1, by omega, by simp, hrow5, hbr.trans hb5⟩, by simp [intOf]; omega⟩
        · obtain rfl : k = ks.length := by omega
          go_wp2
          go_ret
          refine ⟨⟨_, rfl, ?_⟩, hb.trans (hbr.mono hb.size)⟩
          rw [HKL.out, List.take_length] at hrow
          exact own_weaken hrow hb.size
    · have hk0 : ks = [] := List.eq_nil_of_length_eq_zero (by omega)
      have hM0 : M = [] := List.eq_nil_of_length_eq_zero (by rw [← HKL.out, hk0]; rfl)
      subst hM0 hk0
      go_enter Tryz.func21, Tryz.ntmps21
      go_wp2_with (first | (at_lookup; go_must (refine wp_look h3u rfl _ _ 119 rfl 125 Tryz.underlying119 (.pointer none) (zero125 _) bm (gmap L) rfl HM.out id rfl HW.out ?_); rw [HF.out]; dsimp only [Option.map_some, Option.getD_some]) | (go_at_call 79; refine HK.out.mono ?_; rintro e w' ⟨rfl, rfl⟩) | (go_at_call 78; refine HS.out.mono ?_; rintro e w1 ⟨v, rfl, hO, hb⟩; obtain ⟨p, cap, rfl⟩ := (own_at hO).nil_open rfl))
      refine wp_loop_rounds 1 ?_
      rw [rounds_succ]
      go_wp2
      go_ret
      exact ⟨⟨_, rfl, World.ownsRow_nil _ _ _ _⟩, hb⟩
end Go.Proofs.YtjabhhpmofodlaaGreatDoor
