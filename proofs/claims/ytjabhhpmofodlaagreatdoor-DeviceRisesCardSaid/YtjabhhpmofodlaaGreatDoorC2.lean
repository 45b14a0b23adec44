/- slices.BinarySearchFunc at the order of filters. -/
import Derived.Test.YtjabhhpmofodlaaGreatDoorC1
namespace Go.Proofs.YtjabhhpmofodlaaGreatDoor
open Go.RowKit
set_option linter.unusedVariables false
set_option linter.unusedSimpArgs false
set_option maxRecDepth 100000 in
set_option maxHeartbeats 4000000 in
theorem search_any (v : Value) (xs : List ByteArray) (t : ByteArray) (w : World) (hv : RAt w w.heap.size v (strs xs)) (hl : xs.length ≤ 1000000000) (hxs : ∀ x ∈ xs, x.size ≤ 1000000000) (ht : t.size ≤ 1000000000)
    (hmono : ∀ a b (hab : a ≤ b) (hb : b < xs.length), fCmp (xs[b]) t < 0 → fCmp (xs[a]'(by omega)) t < 0) :
    Calls Tryz.prog 82 #[v, .string t, .func (.func 83) #[] #[]] w fun e w' => (∃ i : Nat, i ≤ xs.length ∧ e = .returned (.tuple #[.int .i64 i, .bool (match xs[i]? with | some x => fCmp x t == 0 | none => false)]) ∧
      (∀ k (h : k < xs.length), k < i → fCmp xs[k] t < 0) ∧ (∀ k (h : k < xs.length), i ≤ k → 0 ≤ fCmp xs[k] t)) ∧ Below w.heap.size w w' := by
  by_cases h0 : 0 < xs.length
  · obtain ⟨g, cap, rfl, hg, hc⟩ := hv.open_s h0
    have HC := Lib.hid hc
    have HXS := Lib.hid hxs
    have HMO := Lib.hid hmono
    clear hc hxs hmono hv
    go_enter Tryz.func82, Tryz.ntmps82
    go_wp2
    go_loopw [9, 10] (fun c d wr => ∃ i j : Nat, i ≤ j ∧ j ≤ xs.length ∧ c = .int .i64 i ∧ d = .int .i64 j ∧ (∀ k (h : k < xs.length), k < i → fCmp xs[k] t < 0) ∧ (∀ k (h : k < xs.length), j ≤ k → 0 ≤ fCmp xs[k] t) ∧ Below w.heap.size w wr) (fun c d _ => (intOf d).toNat - (intOf c).toNat)
    case atStart => exact ⟨0, xs.length, Nat.zero_le _, Nat.le_refl _, rfl, rfl, by omega, by omega, Below.refl _ _⟩
    case round =>
      obtain ⟨i, j, hij, hjl, rfl, rfl, hlo, hhi, hbr⟩ := hrel
      have HLO := Lib.hid hlo
      have HHI := Lib.hid hhi
      clear hlo hhi
      by_cases hlt : i < j
      · obtain ⟨h, hh⟩ : ∃ h, h = (i + j) / 2 := ⟨_, rfl⟩
        have hhl : i ≤ h ∧ h < j := by omega
        have hhx : h < xs.length := by omega
        have hck : wr.cell? ⟨g, (i + j) / 2, none⟩ = some (.string xs[h]) := by rw [← hh]; exact (hbr.cell (p := ⟨g, h, none⟩) hg).trans (HC.out h hhx)
        have hxx := HXS.out xs[h] (by simp)
        have HX : Hid (fCmp xs[h] t < 0 → ∀ k (hk : k < xs.length), k < h + 1 → fCmp xs[k] t < 0) := Lib.hid fun hc k hk hk2 => HMO.out k h (by omega) hhx hc
        have HY : Hid (¬ fCmp xs[h] t < 0 → ∀ k (hk : k < xs.length), h ≤ k → 0 ≤ fCmp xs[k] t) := Lib.hid fun hc k hk hk2 => Int.not_lt.1 fun hn => hc (HMO.out h k hk2 hk hn)
        generalize hx : xs[h] = x at *
        clear hx
        go_wp2_with (go_at_call 83; refine (order_any _ _ _ hxx ht).mono ?_; rintro e w2 ⟨rfl, hb2⟩)
        · refine ⟨⟨h + 1, j, by omega, by omega, by simp; omega, rfl, ?_, HHI.out, hbr.trans (hb2.mono hbr.size)⟩, by simp [intOf]; omega⟩
          exact HX.out (by simp_all)
        · refine ⟨⟨i, h, by omega, by omega, rfl, by simp; omega, HLO.out, ?_, hbr.trans (hb2.mono hbr.size)⟩, by simp [intOf]; omega⟩
          exact HY.out (by simp_all)
      · obtain rfl : i = j := by omega
        by_cases hlt : i < xs.length
        · have hck : wr.cell? ⟨g, i, none⟩ = some (.string xs[i]) := (hbr.cell (p := ⟨g, i, none⟩) hg).trans (HC.out i hlt)
          have hxx := HXS.out xs[i] (by simp)
          have HX := Lib.hid (List.getElem?_eq_getElem hlt)
          generalize hx : xs[i] = x at *
          clear hx
          go_wp2_with (go_at_call 83; refine (order_any _ _ _ hxx ht).mono ?_; rintro e w2 ⟨rfl, hb2⟩)
          go_ret2
          exact ⟨⟨i, by omega, by rw [HX.out]; rfl, HLO.out, HHI.out⟩, hbr.trans (hb2.mono hbr.size)⟩
        · obtain rfl : i = xs.length := by omega
          go_wp2
          go_ret2
          exact ⟨⟨xs.length, by omega, by simp, HLO.out, HHI.out⟩, hbr⟩
  · obtain rfl : xs = [] := List.eq_nil_of_length_eq_zero (by omega)
    obtain ⟨p, cap, rfl⟩ := hv.nil_open rfl
    go_enter Tryz.func82, Tryz.ntmps82
    go_wp2
    refine wp_loop_rounds 1 ?_
    rw [rounds_succ]
    go_wp2
    go_ret2
    exact ⟨⟨0, by simp, by simp, by simp, by simp⟩, Below.refl _ _⟩
end Go.Proofs.YtjabhhpmofodlaaGreatDoor
