/- Rows that lie below a bound: what a slice reads as. slices.ContainsFunc / IndexFunc at topic.Right$1. topic.Right. -/
import Derived.Test.YtjabhhpmofodlaaGreatDoorT3
import Derived.Test.YtjabhhpmofodlaaGreatDoorM1
namespace Go.Proofs.YtjabhhpmofodlaaGreatDoor
open Go.RowKit
set_option linter.unusedVariables false
set_option linter.unusedSimpArgs false
/-- A slice of one-cell elements, written out: its cells lie in a block below B. -/
def RAt (w : World) (B : Nat) (v : Value) (vs : List Value) : Prop :=
  ∃ p cap, v = .slice p vs.length cap ∧ ∀ j (hj : j < vs.length), ∃ g, p = some ⟨g, 0, none⟩ ∧ g < B ∧ w.cell? ⟨g, j, none⟩ = some vs[j]
theorem RAt.below {w w' : World} {B : Nat} {v : Value} {vs : List Value} (h : RAt w B v vs) (hb : Below B w w') : RAt w' B v vs := by
  obtain ⟨p, cap, rfl, hc⟩ := h
  refine ⟨p, cap, rfl, fun j hj => ?_⟩
  obtain ⟨g, hp, hg, hcell⟩ := hc j hj
  exact ⟨g, hp, hg, (hb.cell (p := ⟨g, j, none⟩) hg).trans hcell⟩
theorem RAt.mono {w : World} {B B' : Nat} {v : Value} {vs : List Value} (h : RAt w B v vs) (hb : B ≤ B') : RAt w B' v vs := by
  obtain ⟨p, cap, rfl, hc⟩ := h
  refine ⟨p, cap, rfl, fun j hj => ?_⟩
  obtain ⟨g, hp, hg, hcell⟩ := hc j hj
  exact ⟨g, hp, by omega, hcell⟩
theorem RAt.nil_open {w : World} {B : Nat} {v : Value} {vs : List Value} (h : RAt w B v vs) (h0 : vs = []) : ∃ p cap, v = .slice p 0 cap := by
  obtain ⟨p, cap, rfl, hc⟩ := h
  exact ⟨p, cap, by rw [h0]; rfl⟩
theorem RAt.open {w : World} {B : Nat} {v : Value} {vs : List Value} (h : RAt w B v vs) (h0 : 0 < vs.length) :
    ∃ g cap, v = .slice (some ⟨g, 0, none⟩) vs.length cap ∧ g < B ∧ ∀ j (hj : j < vs.length), w.cell? ⟨g, j, none⟩ = some vs[j] := by
  obtain ⟨p, cap, rfl, hc⟩ := h
  obtain ⟨g, rfl, hg, _⟩ := hc 0 h0
  refine ⟨g, cap, rfl, hg, fun j hj => ?_⟩
  obtain ⟨g', hp, _, hcell⟩ := hc j hj
  cases hp
  exact hcell
theorem RAt.nil (w : World) (B : Nat) : RAt w B (.slice .none 0 0) [] := ⟨.none, 0, rfl, fun j hj => absurd hj (by simp)⟩
theorem own_at {w : World} {base n : Nat} {e : TypeId} {v : Value} {vs : List Value} (h : w.ownsRow base e 1 v n vs) : RAt w w.heap.size v vs := by
  have hn := h.1
  have hf := fun g (hv : v.ownBlock = some g) j u hu => h.cells (g := g) hv j u hu
  rcases h.2 with ⟨rfl, h2⟩ | ⟨g, cap, cur, rfl, hg, hb, r⟩
  · simp at hn
    obtain rfl : vs = [] := List.eq_nil_of_length_eq_zero (by omega)
    subst hn
    exact RAt.nil _ _
  · obtain rfl : n = vs.length := by simpa using hn.symm
    refine ⟨_, cap, rfl, fun j hj => ⟨g, rfl, (Array.getElem?_eq_some_iff.1 hb).1, ?_⟩⟩
    have := hf g rfl j vs[j] (by simp [hj])
    have ha : (⟨g, 0, .none⟩ : Addr).add j = ⟨g, j, .none⟩ := by unfold Addr.add; split <;> simp_all
    rwa [ha] at this
theorem OwnS.rat {w : World} {base : Nat} {v : Value} {xs : List ByteArray} (h : OwnS w base v xs) : RAt w w.heap.size v (strs xs) := own_at h
/-- Rows of strings. -/
theorem RAt.open_s {w : World} {B : Nat} {v : Value} {xs : List ByteArray} (h : RAt w B v (strs xs)) (h0 : 0 < xs.length) :
    ∃ g cap, v = .slice (some ⟨g, 0, .none⟩) xs.length cap ∧ g < B ∧ ∀ j (hj : j < xs.length), w.cell? ⟨g, j, .none⟩ = some (.string xs[j]) := by
  have hl : (strs xs).length = xs.length := strs_length xs
  obtain ⟨g, cap, rfl, hg, hc⟩ := h.open (by omega)
  refine ⟨g, cap, by rw [hl], hg, fun j hj => ?_⟩
  have := hc j (by omega)
  rw [this]; simp [strs]
theorem name1_any (x : ByteArray) (w : World) : Calls Tryz.prog 196 #[.string x] w fun e w' => e = .returned (.bool (!nameB x)) ∧ Below w.heap.size w w' := by
  go_enter Tryz.func196, Tryz.ntmps196
  go_wp2_with (go_at_call 145; refine (name_any _ _).mono ?_; rintro e w2 ⟨rfl, hb2⟩)
  go_ret
  exact ⟨rfl, hb2⟩
def findI (p : ByteArray → Bool) : List ByteArray → Nat → Int
  | [], _ => -1
  | x :: r, k => if p x then k else findI p r (k + 1)
set_option maxRecDepth 100000 in
set_option maxHeartbeats 2000000 in
theorem index1_any (v : Value) (xs : List ByteArray) (w : World) (hv : RAt w w.heap.size v (strs xs)) (hl : xs.length ≤ 1000000000) :
    Calls Tryz.prog 226 #[v, .func (.func 196) #[] #[]] w fun e w' => e = .returned (.int .i64 (findI (fun x => !nameB x) xs 0)) ∧ Below w.heap.size w w' := by
  by_cases h0 : 0 < xs.length
  · obtain ⟨g, cap, rfl, hg, hc⟩ := hv.open_s h0
    have HC := Lib.hid hc
    clear hc
    go_enter Tryz.func226, Tryz.ntmps226
    go_wp2
    go_loopw [8] (fun c wr => ∃ k : Nat, k ≤ xs.length ∧ c = .int .i64 k ∧ findI (fun x => !nameB x) xs 0 = findI (fun x => !nameB x) (xs.drop k) k ∧ Below w.heap.size w wr) (fun c _ => xs.length - (intOf c).toNat)
    case atStart => exact ⟨0, Nat.zero_le _, rfl, rfl, Below.refl _ _⟩
    case round =>
      obtain ⟨k, hk, rfl, hf, hbr⟩ := hrel
      have HF := Lib.hid hf
      clear hf
      by_cases hlt : k < xs.length
      · have hck : wr.cell? ⟨g, k, none⟩ = some (.string xs[k]) := (hbr.cell (p := ⟨g, k, none⟩) hg).trans (HC.out k hlt)
        have HX := Lib.hid (List.drop_eq_getElem_cons hlt)
        generalize hx : xs[k] = x at *
        clear hx
        go_wp2_with (go_at_call 196; refine (name1_any _ _).mono ?_; rintro e w2 ⟨rfl, hb2⟩)
        · go_ret
          exact ⟨ret_i (by rw [HF.out, HX.out]; simp_all [findI]), hbr.trans (hb2.mono hbr.size)⟩
        · refine ⟨⟨k + 1, by omega, by simp, ?_, hbr.trans (hb2.mono hbr.size)⟩, by simp [intOf]; omega⟩
          rw [HF.out, HX.out]; simp_all [findI]
      · obtain rfl : k = xs.length := by omega
        go_wp2
        go_ret
        exact ⟨ret_i (by rw [HF.out]; simp [findI]), hbr⟩
  · obtain rfl : xs = [] := List.eq_nil_of_length_eq_zero (by omega)
    obtain ⟨p, cap, rfl⟩ := hv.nil_open rfl
    go_enter Tryz.func226, Tryz.ntmps226
    go_wp2
    refine wp_loop_rounds 1 ?_
    rw [rounds_succ]
    go_wp2
    go_ret
    exact ⟨rfl, Below.refl _ _⟩
theorem findI_ge (p : ByteArray → Bool) (xs : List ByteArray) (k : Nat) : (decide (0 ≤ findI p xs k)) = xs.any p := by
  induction xs generalizing k with
  | nil => simp [findI]
  | cons x r ih =>
    unfold findI
    by_cases h : p x = true
    · simp [h]
    · simp [h, ih]
theorem contains1_any (v : Value) (xs : List ByteArray) (w : World) (hv : RAt w w.heap.size v (strs xs)) (hl : xs.length ≤ 1000000000) :
    Calls Tryz.prog 195 #[v, .func (.func 196) #[] #[]] w fun e w' => e = .returned (.bool (xs.any fun x => !nameB x)) ∧ Below w.heap.size w w' := by
  go_enter Tryz.func195, Tryz.ntmps195
  go_wp2_with (go_at_call 226; refine (index1_any _ _ _ hv hl).mono ?_; rintro e w2 ⟨rfl, hb2⟩)
  go_ret
  exact ⟨ret_b (findI_ge _ _ _), hb2⟩
def rightB (s : ByteArray) : Bool := decide ((levels s).length ≤ 8) && (levels s).all nameB
set_option maxRecDepth 100000 in
theorem right_any (s : ByteArray) (w : World) (hs : s.size ≤ 1000000000) : Calls Tryz.prog 151 #[.string s] w fun e w' => e = .returned (.bool (rightB s)) ∧ Below w.heap.size w w' := by
  have hll := levels_length s
  by_cases h8 : 8 < (levels s).length
  · go_enter Tryz.func151, Tryz.ntmps151
    go_wp2_with (go_at_call 85; refine (levels_any s _ hs).mono ?_; rintro e w1 ⟨v, rfl, hv, hb⟩; obtain ⟨p, cap, rfl, hc⟩ := hv.rat; rw [strs_length] at *)
    go_ret
    exact ⟨ret_b (by unfold rightB; simp; omega), hb⟩
  · go_enter Tryz.func151, Tryz.ntmps151
    go_wp2_with (first | (go_at_call 85; refine (levels_any s _ hs).mono ?_; rintro e w1 ⟨v, rfl, hv, hb⟩; have hv' := Lib.hid hv.rat; obtain ⟨p, cap, rfl, hc⟩ := hv.rat; clear hc; rw [strs_length] at hv' ⊢) | (go_at_call 195; refine (contains1_any _ _ _ hv'.out (by omega)).mono ?_; rintro e w2 ⟨rfl, hb2⟩))
    go_ret
    refine ⟨ret_b ?_, hb.trans (hb2.mono hb.size)⟩
    unfold rightB
    rw [decide_eq_true (by omega : (levels s).length ≤ 8)]
    rw [Bool.eq_iff_iff]; simp
end Go.Proofs.YtjabhhpmofodlaaGreatDoor
