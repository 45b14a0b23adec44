/- event.Sorted, Marks. -/
import Derived.Test.YtjabhhpmofodlaaGreatDoorE1
import Derived.Deep.RegionHeld3
namespace Go.Proofs.YtjabhhpmofodlaaGreatDoor
open Go.RowKit
set_option linter.unusedVariables false
set_option linter.unusedSimpArgs false
abbrev Mk := Int × Int
/-- A slice of marks, written out. -/
def MsAt (w : World) (B : Nat) (v : Value) (ms : List Mk) : Prop :=
  ∃ p cap, v = .slice p ms.length cap ∧ ∀ j (hj : j < ms.length), ∃ g, p = some ⟨g, 0, none⟩ ∧ g < B ∧ w.cell? ⟨g, j * 2, none⟩ = some (.int .i64 ms[j].1) ∧ w.cell? ⟨g, j * 2 + 1, none⟩ = some (.int .i64 ms[j].2)
theorem MsAt.below {w w' : World} {B : Nat} {v : Value} {ms : List Mk} (h : MsAt w B v ms) (hb : Below B w w') : MsAt w' B v ms := by
  obtain ⟨p, cap, rfl, hc⟩ := h
  refine ⟨p, cap, rfl, fun j hj => ?_⟩
  obtain ⟨g, hp, hg, h1, h2⟩ := hc j hj
  exact ⟨g, hp, hg, (hb.cell (p := ⟨g, j * 2, none⟩) hg).trans h1, (hb.cell (p := ⟨g, j * 2 + 1, none⟩) hg).trans h2⟩
theorem MsAt.mono {w : World} {B B' : Nat} {v : Value} {ms : List Mk} (h : MsAt w B v ms) (hb : B ≤ B') : MsAt w B' v ms := by
  obtain ⟨p, cap, rfl, hc⟩ := h
  refine ⟨p, cap, rfl, fun j hj => ?_⟩
  obtain ⟨g, hp, hg, h1⟩ := hc j hj
  exact ⟨g, hp, by omega, h1⟩
theorem MsAt.nil_open {w : World} {B : Nat} {v : Value} {ms : List Mk} (h : MsAt w B v ms) (h0 : ms = []) : ∃ p cap, v = .slice p 0 cap := by
  obtain ⟨p, cap, rfl, hc⟩ := h
  exact ⟨p, cap, by rw [h0]; rfl⟩
theorem MsAt.open {w : World} {B : Nat} {v : Value} {ms : List Mk} (h : MsAt w B v ms) (h0 : 0 < ms.length) :
    ∃ g cap, v = .slice (some ⟨g, 0, none⟩) ms.length cap ∧ g < B ∧ ∀ j (hj : j < ms.length), w.cell? ⟨g, j * 2, none⟩ = some (.int .i64 ms[j].1) ∧ w.cell? ⟨g, j * 2 + 1, none⟩ = some (.int .i64 ms[j].2) := by
  obtain ⟨p, cap, rfl, hc⟩ := h
  obtain ⟨g, rfl, hg, _⟩ := hc 0 h0
  refine ⟨g, cap, rfl, hg, fun j hj => ?_⟩
  obtain ⟨g', hp, _, h1, h2⟩ := hc j hj
  cases hp
  exact ⟨h1, h2⟩
theorem MsAt.nil (w : World) (B : Nat) : MsAt w B (.slice .none 0 0) [] := ⟨.none, 0, rfl, fun j hj => absurd hj (by simp)⟩
def sortL : Int → List Mk → Bool
  | _, [] => true
  | last, m :: r => if m.1 ≤ last ∨ m.1 > maxNum ∨ inB m.2 1 maxNum = false then false else sortL m.1 r
def sortB (ms : List Mk) : Bool := sortL (-1) ms && decide (ms.length ≤ 32)
set_option maxRecDepth 100000 in
set_option maxHeartbeats 4000000 in
theorem sorted_any (v : Value) (ms : List Mk) (w : World) (hv : MsAt w w.heap.size v ms) (hl : ms.length ≤ 1000000000) :
    Calls Tryz.prog 141 #[v] w fun e w' => e = .returned (.bool (sortB ms)) ∧ Below w.heap.size w w' := by
  by_cases h0 : 0 < ms.length
  · obtain ⟨g, cap, rfl, hg, hc⟩ := hv.open h0
    have HC := Lib.hid hc
    clear hc hv
    go_enter Tryz.func141, Tryz.ntmps141
    go_wp2
    go_loopw [3, 8] (fun l c wr => ∃ (k : Nat) (last : Int), k ≤ ms.length ∧ c = .int .i64 k ∧ l = .int .i64 last ∧ sortL (-1) ms = sortL last (ms.drop k) ∧ Below w.heap.size w wr) (fun _ c _ => ms.length - (intOf c).toNat)
    case atStart => exact ⟨0, -1, Nat.zero_le _, rfl, rfl, rfl, Below.refl _ _⟩
    case round =>
      obtain ⟨k, last, hk, rfl, rfl, hf, hbr⟩ := hrel
      have HF := Lib.hid hf
      clear hf
      by_cases hlt : k < ms.length
      · have hck : wr.cell? ⟨g, k * 2, none⟩ = some (.int .i64 ms[k].1) := (hbr.cell (p := ⟨g, k * 2, none⟩) hg).trans (HC.out k hlt).1
        have hck2 : wr.cell? ⟨g, k * 2 + 1, none⟩ = some (.int .i64 ms[k].2) := (hbr.cell (p := ⟨g, k * 2 + 1, none⟩) hg).trans (HC.out k hlt).2
        have HX := Lib.hid (List.drop_eq_getElem_cons hlt)
        generalize hx : ms[k] = x at *
        obtain ⟨o, q⟩ := x
        clear hx
        go_wp2_with (go_at_call 150; refine (within_any _ _ _ _).mono ?_; rintro e w' ⟨rfl, rfl⟩)
        all_goals (try (refine ⟨⟨k + 1, o, by omega, by simp, rfl, ?_, hbr.alloc hbr.size _⟩, by simp [intOf]; omega⟩))
        all_goals (first | (rw [HF.out, HX.out]; simp_all [sortL, maxNum]; done) | (rw [HF.out, HX.out]; simp_all [sortL, maxNum]; omega) | (go_ret; exact ⟨ret_b (by unfold sortB; rw [HF.out, HX.out]; simp_all [sortL, maxNum]; try first | omega | (intro h1; simp_all; omega)), hbr.alloc hbr.size _⟩))
      · obtain rfl : k = ms.length := by omega
        go_wp2
        go_ret
        exact ⟨ret_b (by unfold sortB; rw [HF.out]; simp [sortL]; omega), hbr⟩
  · obtain rfl : ms = [] := List.eq_nil_of_length_eq_zero (by omega)
    obtain ⟨p, cap, rfl⟩ := hv.nil_open rfl
    go_enter Tryz.func141, Tryz.ntmps141
    go_wp2
    refine wp_loop_rounds 1 ?_
    rw [rounds_succ]
    go_wp2
    go_ret
    exact ⟨rfl, Below.refl _ _⟩
/-! ### Marks -/
def vmk (m : Mk) : ByteArray := vput m.1 ++ vput m.2
def vmks (ms : List Mk) : ByteArray := ms.foldl (fun s m => s ++ vmk m) (vput ms.length)
def marksS (ms : List Mk) : ByteArray := if sortB ms then vmks ms else ⟨#[]⟩
theorem sortL_wf {last : Int} {ms : List Mk} (h : sortL last ms = true) (h0 : -1 ≤ last) : ∀ m ∈ ms, 0 ≤ m.1 ∧ m.1 ≤ maxNum ∧ 1 ≤ m.2 ∧ m.2 ≤ maxNum := by
  induction ms generalizing last with
  | nil => simp
  | cons a r ih =>
    unfold sortL at h
    split at h
    · cases h
    · rename_i hn
      simp only [not_or, Int.not_le, gt_iff_lt, Int.not_lt, Bool.not_eq_false] at hn
      obtain ⟨h1, h2, h3⟩ := hn
      have h3' : 1 ≤ a.2 ∧ a.2 ≤ maxNum := by simpa [inB] using h3
      intro m hm
      rcases List.mem_cons.1 hm with rfl | hm
      · exact ⟨by omega, h2, h3'.1, h3'.2⟩
      · exact ih h (by omega) m hm
set_option maxRecDepth 100000 in
set_option maxHeartbeats 4000000 in
theorem marks_any (v : Value) (ms : List Mk) (w : World) (hv : MsAt w w.heap.size v ms) (hl : ms.length ≤ 1000000000) :
    Calls Tryz.prog 77 #[v] w fun e w' => e = .returned (.string (marksS ms)) ∧ Below w.heap.size w w' := by
  cases hS : sortB ms with
  | false =>
    go_enter Tryz.func77, Tryz.ntmps77
    go_wp2_with (go_at_call 141; refine (sorted_any _ _ _ hv hl).mono ?_; rw [hS]; rintro e w1 ⟨rfl, hb1⟩)
    go_ret
    exact ⟨ret_s (by simp [marksS, hS]), hb1⟩
  | true =>
    have hwf : ∀ m ∈ ms, 0 ≤ m.1 ∧ m.1 ≤ maxNum ∧ 1 ≤ m.2 ∧ m.2 ≤ maxNum := by
      simp only [sortB, Bool.and_eq_true] at hS
      exact sortL_wf hS.1 (by omega)
    have hl32 : ms.length ≤ 32 := by simp only [sortB, Bool.and_eq_true, decide_eq_true_eq] at hS; exact hS.2
    have HW := Lib.hid hwf
    clear hwf
    have hres : marksS ms = vmks ms := by simp [marksS, hS]
    rw [hres]
    clear hres
    by_cases h0 : 0 < ms.length
    · obtain ⟨g, cap, rfl, hg, hc⟩ := hv.open h0
      have HC := Lib.hid hc
      have HV := Lib.hid hv
      have HS := Lib.hid hS
      clear hc hv hS
      go_enter Tryz.func77, Tryz.ntmps77
      go_wp2_with (first | (go_at_call 141; refine (sorted_any _ _ _ HV.out hl).mono ?_; rw [HS.out]; rintro e w1 ⟨rfl, hb1⟩) | (go_at_call 75; refine (put_any _ _ (by omega) (by omega)).mono ?_; rintro e w2 ⟨rfl, hb2⟩))
      have hbA := below_go hb1 hb2
      clear hb1 hb2
      go_loopw [3, 15] (fun l c wr => ∃ (k : Nat) (acc : ByteArray), k ≤ ms.length ∧ c = .int .i64 k ∧ l = .string acc ∧ acc.size ≤ 9 + 18 * k ∧ vmks ms = (ms.drop k).foldl (fun s m => s ++ vmk m) acc ∧ Below w.heap.size w wr) (fun _ c _ => ms.length - (intOf c).toNat)
      case atStart => exact ⟨0, vput ms.length, Nat.zero_le _, rfl, rfl, by have := vput_size ms.length; omega, rfl, hbA⟩
      case round =>
        obtain ⟨k, acc, hk, rfl, rfl, hasz, hf, hbr⟩ := hrel
        have HF := Lib.hid hf
        clear hf
        by_cases hlt : k < ms.length
        · have hck : wr.cell? ⟨g, k * 2, none⟩ = some (.int .i64 ms[k].1) := (hbr.cell (p := ⟨g, k * 2, none⟩) hg).trans (HC.out k hlt).1
          have hck2 : wr.cell? ⟨g, k * 2 + 1, none⟩ = some (.int .i64 ms[k].2) := (hbr.cell (p := ⟨g, k * 2 + 1, none⟩) hg).trans (HC.out k hlt).2
          have HX := Lib.hid (List.drop_eq_getElem_cons hlt)
          have hxw := HW.out ms[k] (by simp)
          generalize hx : ms[k] = x at *
          obtain ⟨o, q⟩ := x
          simp only [maxNum] at hxw
          obtain ⟨o1, o2, q1, q2⟩ := hxw
          clear hx
          have m1 : True := trivial
          have hvo := vput_size o
          have hvq := vput_size q
          have hsum : ¬ 9223372036854775807 < (vput o).size + (vput q).size := by omega
          have hsum2 : ¬ 9223372036854775807 < acc.size + ((vput o).size + (vput q).size) := by omega
          have hwo : IntKind.u64.wrap o = o := by exact IntWalk.u64_in _ (by omega)
          have hwq : IntKind.u64.wrap q = q := by exact IntWalk.u64_in _ (by omega)
          have hfr : wr.heap.size < (wr.alloc (.cells #[.int .i64 o, .int .i64 q] 47)).heap.size := by simp
          go_wp2_with fail
          go_region_held3 (fun w' => w'.cell? ⟨wr.heap.size, 0, none⟩ = some (.int .i64 o) ∧ w'.cell? ⟨wr.heap.size, 1, none⟩ = some (.int .i64 q)) (first | go_keep | (go_split_ands; refine ⟨?_, ?_⟩ <;> (rw [hb3.cell (by have := hb2.size; simp at this ⊢; omega)]; assumption)) | (go_split_ands; refine ⟨?_, ?_⟩ <;> (rw [hb2.cell (by simp)]; assumption))) (first | (go_at_call 75; go_must (first | (clear m1; refine (put_any _ _ (by omega) (by omega)).mono ?_; rintro e w2 ⟨rfl, hb2⟩) | (refine (put_any _ _ (by omega) (by omega)).mono ?_; rintro e w3 ⟨rfl, hb3⟩))))
          clear hwo hwq
          have hbz : Below w.heap.size w w3 := (hbr.alloc hbr.size _).drew.trans ((hb2.trans (hb3.mono hb2.size)).mono (by have := hbr.size; simp; omega))
          clear hb2 hb3
          go_wp2
          refine ⟨⟨k + 1, acc ++ (vput o ++ vput q), by omega, by simp, rfl, by simp; omega, ?_, hbz⟩, by simp [intOf]; omega⟩
          rw [HF.out, HX.out]; rfl
        · obtain rfl : k = ms.length := by omega
          go_wp2
          go_ret
          exact ⟨ret_s (by rw [HF.out]; simp), hbr⟩
    · obtain rfl : ms = [] := List.eq_nil_of_length_eq_zero (by omega)
      obtain ⟨p, cap, rfl⟩ := hv.nil_open rfl
      have HV := Lib.hid hv
      have HS := Lib.hid hS
      clear hv hS
      go_enter Tryz.func77, Tryz.ntmps77
      go_wp2_with (first | (go_at_call 141; refine (sorted_any _ _ _ HV.out hl).mono ?_; rw [HS.out]; rintro e w1 ⟨rfl, hb1⟩) | (go_at_call 75; refine (put_any _ _ (by omega) (by omega)).mono ?_; rintro e w2 ⟨rfl, hb2⟩))
      refine wp_loop_rounds 1 ?_
      rw [rounds_succ]
      go_wp2
      go_ret
      exact ⟨rfl, below_go hb1 hb2⟩
end Go.Proofs.YtjabhhpmofodlaaGreatDoor
