/- topic.Match. -/
import Derived.Test.YtjabhhpmofodlaaGreatDoorS1
namespace Go.Proofs.YtjabhhpmofodlaaGreatDoor
open Go.RowKit
set_option linter.unusedVariables false
set_option linter.unusedSimpArgs false
def matchL : List ByteArray → List ByteArray → Bool
  | [], t => t.isEmpty
  | x :: r, t => if x.toList == [35] then true else match t with
    | [] => false
    | y :: t' => if !(x.toList == [43]) && !(x.toList == y.toList) then false else matchL r t'
def matchB (f t : ByteArray) : Bool := filterB f && rightB t && matchL (levels f) (levels t)
set_option maxRecDepth 100000 in
set_option maxHeartbeats 4000000 in
theorem match_any (f t : ByteArray) (w : World) (hf : f.size ≤ 1000000000) (ht : t.size ≤ 1000000000) : Calls Tryz.prog 198 #[.string f, .string t] w fun e w' => e = .returned (.bool (matchB f t)) ∧ Below w.heap.size w w' := by
  have hne := levels_ne f
  have hne2 := levels_ne t
  have hll := levels_length f
  have hll2 := levels_length t
  cases hF : filterB f with
  | false =>
    go_enter Tryz.func198, Tryz.ntmps198
    go_wp2_with (go_at_call 81; refine (filter_any _ _ hf).mono ?_; rw [hF]; rintro e w1 ⟨rfl, hb1⟩)
    go_ret
    exact ⟨ret_b (by simp [matchB, hF]), hb1⟩
  | true =>
    cases hR : rightB t with
    | false =>
      go_enter Tryz.func198, Tryz.ntmps198
      go_wp2_with (first | (go_at_call 81; refine (filter_any _ _ hf).mono ?_; rw [hF]; rintro e w1 ⟨rfl, hb1⟩) | (go_at_call 151; refine (right_any _ _ ht).mono ?_; rw [hR]; rintro e w2 ⟨rfl, hb2⟩))
      go_ret
      exact ⟨ret_b (by simp [matchB, hR]), below_go hb1 hb2⟩
    | true =>
      have hMM : matchB f t = matchL (levels f) (levels t) := by simp [matchB, hF, hR]
      rw [hMM]
      clear hMM
      generalize hlf : levels f = lf at *
      generalize hlt : levels t = lt at *
      have HLF := Lib.hid hlf
      have HLT := Lib.hid hlt
      clear hlf hlt
      have m1 : True := trivial
      go_enter Tryz.func198, Tryz.ntmps198
      go_wp2_with (first | (go_at_call 81; refine (filter_any _ _ hf).mono ?_; rw [hF]; rintro e w1 ⟨rfl, hb1⟩; clear hF) | (go_at_call 151; refine (right_any _ _ ht).mono ?_; rw [hR]; rintro e w2 ⟨rfl, hb2⟩; clear hR) |
        (go_at_call 85; go_must (first | (clear m1; refine (levels_any f _ hf).mono ?_; rw [HLF.out]; rintro e w3 ⟨v3, rfl, hv3, hb3⟩; obtain ⟨g, cap, rfl, hg, hgw, hc⟩ := OwnS.open hv3 hne) | (refine (levels_any t _ ht).mono ?_; rw [HLT.out]; rintro e w4 ⟨v4, rfl, hv4, hb4⟩; obtain ⟨g2, cap2, rfl, hg2, hgw2, hc2⟩ := OwnS.open hv4 hne2))))
      have HC := Lib.hid hc
      have HD := Lib.hid hc2
      have HFR := Lib.hid (⟨by omega, by omega, by omega⟩ : g < w4.heap.size ∧ g2 < w4.heap.size ∧ lf.length ≤ 1000000001)
      have HB := Lib.hid (below_go (below_go (below_go hb1 hb2) hb3) hb4)
      have hcell3 := Lib.hid hb4
      have l1 : lf.length ≤ 1000000001 := by omega
      have l2 : lt.length ≤ 1000000001 := by omega
      clear hc hc2 hb1 hb2 hb3 hb4 hv3 hv4 HLF HLT hg hg2 hll hll2 hf ht
      go_loopw [23] (fun c wr => ∃ k : Nat, k ≤ lf.length ∧ k ≤ lt.length ∧ c = .int .i64 k ∧ matchL lf lt = matchL (lf.drop k) (lt.drop k) ∧ wr = w4) (fun c _ => lf.length - (intOf c).toNat)
      case atStart => exact ⟨0, Nat.zero_le _, Nat.zero_le _, rfl, rfl, rfl⟩
      case round =>
        obtain ⟨k, hk, hk2, rfl, hm, rfl⟩ := hrel
        have HM := Lib.hid hm
        clear hm
        by_cases hlt : k < lf.length
        · have hck : wr.cell? ⟨g, k, none⟩ = some (.string lf[k]) := (hcell3.out.cell (p := ⟨g, k, none⟩) hgw).trans (HC.out k hlt)
          have HX := Lib.hid (List.drop_eq_getElem_cons hlt)
          generalize hx : lf[k] = x at *
          clear hx
          by_cases hlt2 : k < lt.length
          · have hck2 : wr.cell? ⟨g2, k, none⟩ = some (.string lt[k]) := HD.out k hlt2
            have HY := Lib.hid (List.drop_eq_getElem_cons hlt2)
            generalize hy : lt[k] = y at *
            clear hy
            go_wp2
            all_goals (try (refine ⟨⟨k + 1, by omega, by omega, by simp, ?_, trivial⟩, by simp [intOf]; omega⟩))
            all_goals (first | (rw [HM.out, HX.out, HY.out]; simp_all [matchL]; done) | (go_ret; exact ⟨ret_b (by rw [HM.out, HX.out, HY.out]; simp_all [matchL]), HB.out⟩))
          · obtain rfl : k = lt.length := by omega
            have HY : lt.drop lt.length = [] := by simp
            go_wp2
            all_goals (go_ret; exact ⟨ret_b (by rw [HM.out, HX.out]; simp_all [matchL]), HB.out⟩)
        · obtain rfl : k = lf.length := by omega
          go_wp2
          go_ret
          exact ⟨ret_b (by rw [HM.out]; simp only [List.drop_length, matchL]; rw [Bool.eq_iff_iff]; simp; omega), HB.out⟩
end Go.Proofs.YtjabhhpmofodlaaGreatDoor
