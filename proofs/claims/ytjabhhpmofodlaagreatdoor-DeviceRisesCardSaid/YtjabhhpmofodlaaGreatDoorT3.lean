/- topic.Filter, topic.Right, topic.Match. -/
import Derived.Test.YtjabhhpmofodlaaGreatDoorT1
import Derived.Test.YtjabhhpmofodlaaGreatDoorT2
namespace Go.Proofs.YtjabhhpmofodlaaGreatDoor
open Go.RowKit
set_option linter.unusedVariables false
set_option linter.unusedSimpArgs false
theorem levels_ne (s : ByteArray) : 0 < (levels s).length := by
  unfold levels; rw [List.length_map]
  have := lv_ne s.data.toList
  cases h : lv s.data.toList with
  | nil => exact absurd h this
  | cons a b => simp
/-- A slice of strings of one's own is written out: its address and its cells. -/
theorem OwnS.open {w : World} {base : Nat} {v : Value} {xs : List ByteArray} (h : OwnS w base v xs) (h0 : 0 < xs.length) :
    ∃ g cap, v = .slice (some ⟨g, 0, none⟩) xs.length cap ∧ base ≤ g ∧ g < w.heap.size ∧ ∀ j (hj : j < xs.length), w.cell? ⟨g, j, none⟩ = some (.string xs[j]) := by
  have hl : (strs xs).length = xs.length := strs_length xs
  obtain ⟨g, cap, rfl, hgb, hgl⟩ := h.form (by omega)
  refine ⟨g, cap, by rw [hl], hgb, hgl, fun j hj => ?_⟩
  have := h.cells (g := g) rfl j (.string xs[j]) (by simp [strs, hj])
  have ha : (⟨g, 0, none⟩ : Addr).add j = ⟨g, j, none⟩ := by unfold Addr.add; split <;> simp_all
  rwa [ha] at this
def lvlB (x : ByteArray) (last : Bool) : Bool := nameB x || x.toList == [43] || (x.toList == [35] && last)
def filtL : List ByteArray → Bool
  | [] => true
  | x :: r => lvlB x r.isEmpty && filtL r
def filterB (s : ByteArray) : Bool := decide ((levels s).length ≤ 8) && filtL (levels s)
set_option maxRecDepth 100000 in
set_option maxHeartbeats 2000000 in
theorem filter_any (s : ByteArray) (w : World) (hs : s.size ≤ 1000000000) : Calls Tryz.prog 81 #[.string s] w fun e w' => e = .returned (.bool (filterB s)) ∧ Below w.heap.size w w' := by
  have hne := levels_ne s
  have hll := levels_length s
  by_cases h8 : 8 < (levels s).length
  · go_enter Tryz.func81, Tryz.ntmps81
    go_wp2_with (go_at_call 85; refine (levels_any s _ hs).mono ?_; rintro e w1 ⟨v, rfl, hv, hb⟩; obtain ⟨g, cap, rfl, hg, hg2, hc⟩ := hv.open hne)
    go_ret
    exact ⟨ret_b (by unfold filterB; rw [show decide ((levels s).length ≤ 8) = false from by simp; omega]; rfl), hb⟩
  · go_enter Tryz.func81, Tryz.ntmps81
    go_wp2_with (go_at_call 85; refine (levels_any s _ hs).mono ?_; rintro e w1 ⟨v, rfl, hv, hb⟩; obtain ⟨g, cap, rfl, hg, hg2, hc⟩ := hv.open hne)
    have HC := Lib.hid hc
    clear hc
    go_loopw [14] (fun c wr => ∃ k : Nat, k ≤ (levels s).length ∧ c = .int .i64 k ∧ filtL (levels s) = filtL ((levels s).drop k) ∧ Below w1.heap.size w1 wr) (fun c _ => (levels s).length - (intOf c).toNat)
    case atStart => exact ⟨0, Nat.zero_le _, rfl, rfl, Below.refl _ _⟩
    case round =>
      obtain ⟨k, hk, rfl, hf, hbr⟩ := hrel
      have HF := Lib.hid hf
      clear hf
      by_cases hlt : k < (levels s).length
      · have hre : (List.drop (k + 1) (levels s)).isEmpty = ((k : Int) == ((levels s).length : Int) - 1) := by
          rw [Bool.eq_iff_iff]; simp; omega
        have HE := Lib.hid hre
        clear hre
        have hck : wr.cell? ⟨g, k, none⟩ = some (.string (levels s)[k]) := (hbr.cell (p := ⟨g, k, none⟩) hg2).trans (HC.out k hlt)
        have HX := Lib.hid (List.drop_eq_getElem_cons hlt)
        generalize hx : (levels s)[k] = x at *
        clear hx
        go_wp2_with (go_at_call 145; refine (name_any _ _).mono ?_; rintro e w2 ⟨rfl, hb2⟩)
        all_goals (try (refine ⟨⟨k + 1, by omega, by simp, ?_, hbr.trans (hb2.mono hbr.size)⟩, by simp [intOf]; omega⟩))
        all_goals (first | (rw [HF.out, HX.out]; simp_all [filtL, lvlB, HE.out]; done) | (go_ret; exact ⟨ret_b (by unfold filterB; rw [HF.out, HX.out]; simp_all [filtL, lvlB, HE.out]), hb.trans ((hbr.trans (hb2.mono hbr.size)).mono hb.size)⟩))
      · have hkl : k = (levels s).length := by omega
        subst hkl
        go_wp2
        go_ret
        exact ⟨ret_b (by unfold filterB; rw [HF.out]; simp [filtL]; omega), hb.trans (hbr.mono hb.size)⟩
end Go.Proofs.YtjabhhpmofodlaaGreatDoor
