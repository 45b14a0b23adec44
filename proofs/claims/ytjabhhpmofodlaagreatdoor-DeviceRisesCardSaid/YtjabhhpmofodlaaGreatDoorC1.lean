/- cmp.Compare, slices.Compare, the order of filters. -/
import Derived.Test.YtjabhhpmofodlaaGreatDoorS3
namespace Go.Proofs.YtjabhhpmofodlaaGreatDoor
open Go.RowKit
set_option linter.unusedVariables false
set_option linter.unusedSimpArgs false
theorem nan_any (x : ByteArray) (w : World) : Calls Tryz.prog 192 #[.string x] w fun e w' => e = .returned (.bool false) ∧ w = w' := by
  go_enter Tryz.func192, Tryz.ntmps192
  go_wp2
  go_ret
  exact ⟨rfl, rfl⟩
def sLess (x y : ByteArray) : Bool := Op.bytesLess x.toList y.toList
def sCmp (x y : ByteArray) : Int := if sLess x y then -1 else if x.toList == y.toList then 0 else 1
theorem compare_any (x y : ByteArray) (w : World) : Calls Tryz.prog 146 #[.string x, .string y] w fun e w' => e = .returned (.int .i64 (sCmp x y)) ∧ w = w' := by
  go_enter Tryz.func146, Tryz.ntmps146
  go_wp2_with (go_at_call 192; refine (nan_any _ _).mono ?_; rintro e w' ⟨rfl, rfl⟩)
  all_goals go_ret
  all_goals (refine ⟨ret_i ?_, rfl⟩; unfold sCmp sLess; simp_all)
def cmpL : List ByteArray → List ByteArray → Int
  | [], [] => 0
  | [], _ :: _ => -1
  | _ :: _, [] => 1
  | x :: r, y :: t => if sCmp x y != 0 then sCmp x y else cmpL r t
set_option maxRecDepth 100000 in
set_option maxHeartbeats 4000000 in
theorem comparel_any (v1 v2 : Value) (lf lt : List ByteArray) (w : World) (h1 : RAt w w.heap.size v1 (strs lf)) (h2 : RAt w w.heap.size v2 (strs lt)) (hl1 : 0 < lf.length) (hl2 : 0 < lt.length) (l1 : lf.length ≤ 1000000001) (l2 : lt.length ≤ 1000000001) :
    Calls Tryz.prog 84 #[v1, v2] w fun e w' => e = .returned (.int .i64 (cmpL lf lt)) ∧ w = w' := by
  obtain ⟨g, cap, rfl, hg, hc⟩ := h1.open_s hl1
  obtain ⟨g2, cap2, rfl, hg2, hd⟩ := h2.open_s hl2
  have HC := Lib.hid hc
  have HD := Lib.hid hd
  clear hc hd h1 h2
  go_enter Tryz.func84, Tryz.ntmps84
  go_wp2
  go_loopw [11] (fun c wr => ∃ k : Nat, k ≤ lf.length ∧ k ≤ lt.length ∧ c = .int .i64 k ∧ cmpL lf lt = cmpL (lf.drop k) (lt.drop k) ∧ wr = w) (fun c _ => lf.length - (intOf c).toNat)
  case atStart => exact ⟨0, Nat.zero_le _, Nat.zero_le _, rfl, rfl, rfl⟩
  case round =>
    obtain ⟨k, hk, hk2, rfl, hm, rfl⟩ := hrel
    have HM := Lib.hid hm
    clear hm
    by_cases hlt : k < lf.length
    · have hck : wr.cell? ⟨g, k, none⟩ = some (.string lf[k]) := HC.out k hlt
      have HX := Lib.hid (List.drop_eq_getElem_cons hlt)
      generalize hx : lf[k] = x at *
      clear hx
      by_cases hlt2 : k < lt.length
      · have hck2 : wr.cell? ⟨g2, k, none⟩ = some (.string lt[k]) := HD.out k hlt2
        have HY := Lib.hid (List.drop_eq_getElem_cons hlt2)
        generalize hy : lt[k] = y at *
        clear hy
        have hcx : ∀ w, Calls Tryz.prog 146 #[.string x, .string y] w fun e w' => e = .returned (.int .i64 (sCmp x y)) ∧ w = w' := fun w => compare_any x y w
        generalize hsc : sCmp x y = c at *
        have HSC := Lib.hid hsc
        have HCX := Lib.hid hcx
        clear hsc hcx
        go_wp2_with (go_at_call 146; refine (HCX.out _).mono ?_; rintro e w' ⟨rfl, rfl⟩)
        · go_ret
          exact ⟨ret_i (by rw [HM.out, HX.out, HY.out]; simp_all [cmpL, HSC.out]), rfl⟩
        · refine ⟨⟨k + 1, by omega, by omega, by simp, ?_, trivial⟩, by simp [intOf]; omega⟩
          rw [HM.out, HX.out, HY.out]; simp_all [cmpL, HSC.out]
      · obtain rfl : k = lt.length := by omega
        go_wp2
        go_ret
        exact ⟨ret_i (by rw [HM.out, HX.out]; simp [cmpL]), rfl⟩
    · obtain rfl : k = lf.length := by omega
      by_cases hlt2 : lf.length < lt.length
      · have HY := Lib.hid (List.drop_eq_getElem_cons hlt2)
        go_wp2
        go_ret
        exact ⟨ret_i (by rw [HM.out, List.drop_length, HY.out]; rfl), rfl⟩
      · have : lt.drop lf.length = [] := by simp; omega
        have HY := Lib.hid this
        clear this
        go_wp2
        go_ret
        exact ⟨ret_i (by rw [HM.out, HY.out]; simp [cmpL]), rfl⟩
def fCmp (a b : ByteArray) : Int := cmpL (levels a) (levels b)
theorem order_any (a b : ByteArray) (w : World) (ha : a.size ≤ 1000000000) (hb : b.size ≤ 1000000000) : Calls Tryz.prog 83 #[.string a, .string b] w fun e w' => e = .returned (.int .i64 (fCmp a b)) ∧ Below w.heap.size w w' := by
  have m1 : True := trivial
  have ll1 := levels_length a
  have ll2 := levels_length b
  go_enter Tryz.func83, Tryz.ntmps83
  go_wp2_with (first | (go_at_call 85; go_must (first | (clear m1; refine (levels_any a _ ha).mono ?_; rintro e w3 ⟨v3, rfl, hv3, hb3⟩) | (refine (levels_any b _ hb).mono ?_; rintro e w4 ⟨v4, rfl, hv4, hb4⟩))) | (go_at_call 84; refine (comparel_any _ _ _ _ _ ((hv3.rat.below hb4).mono hb4.size) hv4.rat (levels_ne a) (levels_ne b) (by omega) (by omega)).mono ?_; rintro e w5 ⟨rfl, rfl⟩))
  go_ret
  exact ⟨rfl, below_go hb3 hb4⟩
end Go.Proofs.YtjabhhpmofodlaaGreatDoor
