/- The references' Ints, Same, Equal. -/
import Derived.Test.YtjabhhpmofodlaaGreatDoorG3
import Derived.Test.YtjabhhpmofodlaaGreatDoorO1
import Derived.Deep.QuietTactic
import Derived.Laws.StructEq
import Derived.BigQuiet
namespace Go.Proofs.YtjabhhpmofodlaaGreatDoor
open Go.RowKit
set_option linter.unusedVariables false
set_option linter.unusedSimpArgs false
theorem RAt.open_i {w : World} {B : Nat} {v : Value} {xs : List Int} (h : RAt w B v (ints xs)) (h0 : 0 < xs.length) :
    ∃ g cap, v = .slice (some ⟨g, 0, .none⟩) xs.length cap ∧ g < B ∧ ∀ j (hj : j < xs.length), w.cell? ⟨g, j, .none⟩ = some (.int .i64 xs[j]) := by
  have hl : (ints xs).length = xs.length := by simp [ints]
  obtain ⟨g, cap, rfl, hg, hc⟩ := h.open (by omega)
  refine ⟨g, cap, by rw [hl], hg, fun j hj => ?_⟩
  have := hc j (by omega)
  rw [this]; simp [ints]
theorem below_drewN {B : Nat} {a w : World} (h : Below B a w) (n : Nat) : Below B a (w.drewN n) := ⟨h.os, h.tape, h.output, h.size, h.block⟩
theorem neq_mark (x1 x2 y1 y2 : Int) (W : World) : (binOp .neq 47 (.agg #[.int .i64 x1, .int .i64 x2]) (.agg #[.int .i64 y1, .int .i64 y2])).run Tryz.prog W = .ok (.bool (!decide (x1 = y1 ∧ x2 = y2))) W := by
  rw [run_neq_struct]
  simp [go_sem, Tryz.underlying47, Tryz.underlying3]
  by_cases h1 : x1 = y1 <;> by_cases h2 : x2 = y2 <;> simp [h1, h2]
theorem guard_mark : Tryz.prog.eqGuardType Tryz.prog.depth 47 = false := by kernel_rfl
set_option maxRecDepth 100000 in
set_option maxHeartbeats 2000000 in
theorem rints_any (v1 v2 : Value) (a b : List Int) (w : World) (h1 : RAt w w.heap.size v1 (ints a)) (h2 : RAt w w.heap.size v2 (ints b)) (l1 : a.length ≤ 1000000000) (l2 : b.length ≤ 1000000000) :
    Calls Tryz.prog 73 #[v1, v2] w fun e w' => e = .returned (.bool (decide (a = b))) ∧ Below w.heap.size w w' := by
  by_cases hl : a.length = b.length
  · by_cases h0 : 0 < a.length
    · obtain ⟨g, cap, rfl, hg, hc⟩ := h1.open_i h0
      obtain ⟨g2, cap2, rfl, hg2, hd⟩ := h2.open_i (by omega)
      have HC := Lib.hid hc
      have HD := Lib.hid hd
      have HL := Lib.hid hl
      rw [← hl]
      clear hc hd h1 h2 hl
      go_enter Tryz.func73, Tryz.ntmps73
      go_wp2
      go_loopw [5] (fun c wr => ∃ k : Nat, k ≤ a.length ∧ c = .int .i64 k ∧ (∀ j (hj : j < a.length) (hj2 : j < b.length), j < k → a[j] = b[j]) ∧ Below w.heap.size w wr) (fun c _ => a.length - (intOf c).toNat)
      case atStart => exact ⟨0, Nat.zero_le _, rfl, by omega, Below.refl _ _⟩
      case round =>
        obtain ⟨k, hk, rfl, hm, hbr⟩ := hrel
        have HM := Lib.hid hm
        clear hm
        by_cases hlt : k < a.length
        · have hltb : k < b.length := by rw [← HL.out]; exact hlt
          have hck : wr.cell? ⟨g, k, none⟩ = some (.int .i64 a[k]) := (hbr.cell (p := ⟨g, k, none⟩) hg).trans (HC.out k hlt)
          have hck2 : wr.cell? ⟨g2, k, none⟩ = some (.int .i64 b[k]) := (hbr.cell (p := ⟨g2, k, none⟩) hg2).trans (HD.out k hltb)
          have HX : Hid (a[k] = b[k] → ∀ j (hj : j < a.length) (hj2 : j < b.length), j < k + 1 → a[j] = b[j]) := Lib.hid fun e j hj hj2 hjk => by
            by_cases hje : j = k
            · subst hje; exact e
            · exact HM.out j hj hj2 (by omega)
          have HY : Hid (a[k] ≠ b[k] → decide (a = b) = false) := Lib.hid fun e => by simp; rintro rfl; exact e rfl
          generalize a[k] = x at *
          generalize b[k] = y at *
          have h0k : (0 : Int) ≤ (k : Int) := by omega
          have hki : (k : Int) < (a.length : Int) := by omega
          go_wp2_with fail
          go_quiet (fail)
          go_wp2
          · rename_i hne
            go_ret
            exact ⟨ret_b (by rw [HY.out (by simpa using hne)]), below_drewN hbr _⟩
          · rename_i heq
            exact ⟨⟨k + 1, by omega, by simp, HX.out (by simpa using heq), below_drewN hbr _⟩, by simp [intOf]; omega⟩
        · obtain rfl : k = a.length := by omega
          go_wp2
          go_ret
          refine ⟨ret_b ?_, hbr⟩
          have : a = b := List.ext_getElem HL.out fun j hj hj2 => HM.out j hj hj2 hj
          simp [this]
    · obtain rfl : a = [] := List.eq_nil_of_length_eq_zero (by omega)
      obtain rfl : b = [] := List.eq_nil_of_length_eq_zero (by simpa using hl.symm)
      obtain ⟨p, cap, rfl⟩ := h1.nil_open rfl
      obtain ⟨p2, cap2, rfl⟩ := h2.nil_open rfl
      go_enter Tryz.func73, Tryz.ntmps73
      go_wp2
      refine wp_loop_rounds 1 ?_
      rw [rounds_succ]
      go_wp2
      go_ret
      exact ⟨rfl, Below.refl _ _⟩
  · obtain ⟨p, cap, rfl, _⟩ := h1
    obtain ⟨p2, cap2, rfl, _⟩ := h2
    have e1 : (ints a).length = a.length := by simp [ints]
    have e2 : (ints b).length = b.length := by simp [ints]
    rw [e1, e2]
    have hne : ((a.length : Int) != b.length) = true := by simp; omega
    go_enter Tryz.func73, Tryz.ntmps73
    go_wp2
    go_ret
    refine ⟨ret_b ?_, Below.refl _ _⟩
    have : a ≠ b := by rintro rfl; exact hl rfl
    simp [this]
set_option maxRecDepth 100000 in
set_option maxHeartbeats 2000000 in
theorem same_any (v1 v2 : Value) (a b : List ByteArray) (w : World) (h1 : RAt w w.heap.size v1 (strs a)) (h2 : RAt w w.heap.size v2 (strs b)) (l1 : a.length ≤ 1000000000) (l2 : b.length ≤ 1000000000) :
    Calls Tryz.prog 32 #[v1, v2] w fun e w' => e = .returned (.bool (decide (a = b))) ∧ Below w.heap.size w w' := by
  by_cases hl : a.length = b.length
  · by_cases h0 : 0 < a.length
    · obtain ⟨g, cap, rfl, hg, hc⟩ := h1.open_s h0
      obtain ⟨g2, cap2, rfl, hg2, hd⟩ := h2.open_s (by omega)
      have HC := Lib.hid hc
      have HD := Lib.hid hd
      have HL := Lib.hid hl
      rw [← hl]
      clear hc hd h1 h2 hl
      go_enter Tryz.func32, Tryz.ntmps32
      go_wp2
      go_loopw [5] (fun c wr => ∃ k : Nat, k ≤ a.length ∧ c = .int .i64 k ∧ (∀ j (hj : j < a.length) (hj2 : j < b.length), j < k → a[j] = b[j]) ∧ Below w.heap.size w wr) (fun c _ => a.length - (intOf c).toNat)
      case atStart => exact ⟨0, Nat.zero_le _, rfl, by omega, Below.refl _ _⟩
      case round =>
        obtain ⟨k, hk, rfl, hm, hbr⟩ := hrel
        have HM := Lib.hid hm
        clear hm
        by_cases hlt : k < a.length
        · have hltb : k < b.length := by rw [← HL.out]; exact hlt
          have hck : wr.cell? ⟨g, k, none⟩ = some (.string a[k]) := (hbr.cell (p := ⟨g, k, none⟩) hg).trans (HC.out k hlt)
          have hck2 : wr.cell? ⟨g2, k, none⟩ = some (.string b[k]) := (hbr.cell (p := ⟨g2, k, none⟩) hg2).trans (HD.out k hltb)
          have HX : Hid (a[k] = b[k] → ∀ j (hj : j < a.length) (hj2 : j < b.length), j < k + 1 → a[j] = b[j]) := Lib.hid fun e j hj hj2 hjk => by
            by_cases hje : j = k
            · subst hje; exact e
            · exact HM.out j hj hj2 (by omega)
          have HY : Hid (a[k] ≠ b[k] → decide (a = b) = false) := Lib.hid fun e => by simp; rintro rfl; exact e rfl
          generalize a[k] = x at *
          generalize b[k] = y at *
          have h0k : (0 : Int) ≤ (k : Int) := by omega
          have hki : (k : Int) < (a.length : Int) := by omega
          go_wp2_with fail
          go_quiet (fail)
          go_wp2
          · rename_i hne
            go_ret
            exact ⟨ret_b (by rw [HY.out (by rintro rfl; simp at hne)]), below_drewN hbr _⟩
          · rename_i heq
            exact ⟨⟨k + 1, by omega, by simp, HX.out (ba_inj (by simpa using heq)), below_drewN hbr _⟩, by simp [intOf]; omega⟩
        · obtain rfl : k = a.length := by omega
          go_wp2
          go_ret
          refine ⟨ret_b ?_, hbr⟩
          have : a = b := List.ext_getElem HL.out fun j hj hj2 => HM.out j hj hj2 hj
          simp [this]
    · obtain rfl : a = [] := List.eq_nil_of_length_eq_zero (by omega)
      obtain rfl : b = [] := List.eq_nil_of_length_eq_zero (by simpa using hl.symm)
      obtain ⟨p, cap, rfl⟩ := h1.nil_open rfl
      obtain ⟨p2, cap2, rfl⟩ := h2.nil_open rfl
      go_enter Tryz.func32, Tryz.ntmps32
      go_wp2
      refine wp_loop_rounds 1 ?_
      rw [rounds_succ]
      go_wp2
      go_ret
      exact ⟨rfl, Below.refl _ _⟩
  · obtain ⟨p, cap, rfl, _⟩ := h1
    obtain ⟨p2, cap2, rfl, _⟩ := h2
    have e1 : (strs a).length = a.length := strs_length _
    have e2 : (strs b).length = b.length := strs_length _
    rw [e1, e2]
    have hne : ((a.length : Int) != b.length) = true := by simp; omega
    go_enter Tryz.func32, Tryz.ntmps32
    go_wp2
    go_ret
    refine ⟨ret_b ?_, Below.refl _ _⟩
    have : a ≠ b := by rintro rfl; exact hl rfl
    simp [this]
set_option maxRecDepth 100000 in
set_option maxHeartbeats 2000000 in
theorem equal_any (v1 v2 : Value) (a b : List Mk) (w : World) (h1 : MsAt w w.heap.size v1 a) (h2 : MsAt w w.heap.size v2 b) (l1 : a.length ≤ 1000000000) (l2 : b.length ≤ 1000000000) :
    Calls Tryz.prog 34 #[v1, v2] w fun e w' => e = .returned (.bool (decide (a = b))) ∧ Below w.heap.size w w' := by
  by_cases hl : a.length = b.length
  · by_cases h0 : 0 < a.length
    · obtain ⟨g, cap, rfl, hg, hc⟩ := h1.open h0
      obtain ⟨g2, cap2, rfl, hg2, hd⟩ := h2.open (by omega)
      have HC := Lib.hid hc
      have HD := Lib.hid hd
      have HL := Lib.hid hl
      rw [← hl]
      clear hc hd h1 h2 hl
      go_enter Tryz.func34, Tryz.ntmps34
      go_wp2
      go_loopw [5] (fun c wr => ∃ k : Nat, k ≤ a.length ∧ c = .int .i64 k ∧ (∀ j (hj : j < a.length) (hj2 : j < b.length), j < k → a[j] = b[j]) ∧ Below w.heap.size w wr) (fun c _ => a.length - (intOf c).toNat)
      case atStart => exact ⟨0, Nat.zero_le _, rfl, by omega, Below.refl _ _⟩
      case round =>
        obtain ⟨k, hk, rfl, hm, hbr⟩ := hrel
        have HM := Lib.hid hm
        clear hm
        by_cases hlt : k < a.length
        · have hltb : k < b.length := by rw [← HL.out]; exact hlt
          have hck : wr.cell? ⟨g, k * 2, none⟩ = some (.int .i64 a[k].1) := (hbr.cell (p := ⟨g, k * 2, none⟩) hg).trans (HC.out k hlt).1
          have hcl : wr.cell? ⟨g, k * 2 + 1, none⟩ = some (.int .i64 a[k].2) := (hbr.cell (p := ⟨g, k * 2 + 1, none⟩) hg).trans (HC.out k hlt).2
          have hck2 : wr.cell? ⟨g2, k * 2, none⟩ = some (.int .i64 b[k].1) := (hbr.cell (p := ⟨g2, k * 2, none⟩) hg2).trans (HD.out k hltb).1
          have hcl2 : wr.cell? ⟨g2, k * 2 + 1, none⟩ = some (.int .i64 b[k].2) := (hbr.cell (p := ⟨g2, k * 2 + 1, none⟩) hg2).trans (HD.out k hltb).2
          have HX : Hid (a[k] = b[k] → ∀ j (hj : j < a.length) (hj2 : j < b.length), j < k + 1 → a[j] = b[j]) := Lib.hid fun e j hj hj2 hjk => by
            by_cases hje : j = k
            · subst hje; exact e
            · exact HM.out j hj hj2 (by omega)
          have HY : Hid (a[k] ≠ b[k] → decide (a = b) = false) := Lib.hid fun e => by simp; rintro rfl; exact e rfl
          generalize a[k] = x at *
          generalize b[k] = y at *
          obtain ⟨x1, x2⟩ := x
          obtain ⟨y1, y2⟩ := y
          have h0k : (0 : Int) ≤ (k : Int) := by omega
          have hki : (k : Int) < (a.length : Int) := by omega
          have hnm := fun W => neq_mark x1 x2 y1 y2 W
          have hgm := guard_mark
          go_wp2_with fail
          go_quiet (fail)
          clear hnm hgm
          go_wp2
          · rename_i hne
            go_ret
            exact ⟨ret_b (by rw [HY.out (by intro e; simp only [Prod.mk.injEq] at e; simp [e] at hne)]), below_drewN hbr _⟩
          · rename_i heq
            exact ⟨⟨k + 1, by omega, by simp, HX.out (by simpa using heq), below_drewN hbr _⟩, by simp [intOf]; omega⟩
        · obtain rfl : k = a.length := by omega
          go_wp2
          go_ret
          refine ⟨ret_b ?_, hbr⟩
          have : a = b := List.ext_getElem HL.out fun j hj hj2 => HM.out j hj hj2 hj
          simp [this]
    · obtain rfl : a = [] := List.eq_nil_of_length_eq_zero (by omega)
      obtain rfl : b = [] := List.eq_nil_of_length_eq_zero (by simpa using hl.symm)
      obtain ⟨p, cap, rfl⟩ := h1.nil_open rfl
      obtain ⟨p2, cap2, rfl⟩ := h2.nil_open rfl
      go_enter Tryz.func34, Tryz.ntmps34
      go_wp2
      refine wp_loop_rounds 1 ?_
      rw [rounds_succ]
      go_wp2
      go_ret
      exact ⟨rfl, Below.refl _ _⟩
  · obtain ⟨p, cap, rfl, _⟩ := h1
    obtain ⟨p2, cap2, rfl, _⟩ := h2
    have hne : ((a.length : Int) != b.length) = true := by simp; omega
    go_enter Tryz.func34, Tryz.ntmps34
    go_wp2
    go_ret
    refine ⟨ret_b ?_, Below.refl _ _⟩
    have : a ≠ b := by rintro rfl; exact hl rfl
    simp [this]
end Go.Proofs.YtjabhhpmofodlaaGreatDoor
