/- Contracts of package varint: Get. -/
import Derived.Test.YtjabhhpmofodlaaGreatDoorV2
import Derived.BigQuiet
namespace Go.Proofs.YtjabhhpmofodlaaGreatDoor
open Go.RowKit
set_option linter.unusedVariables false
set_option linter.unusedSimpArgs false
/-- The byte at a place; 0 beyond the end. -/
def bt (s : ByteArray) (i : Int) : Int := if h : i.toNat < s.size then ((s[i.toNat]'h).toNat : Int) else 0
theorem bt_at (s : ByteArray) : ∀ (i : Int) (h : i.toNat < s.size), ((s[i.toNat]'h).toNat : Int) = bt s i := fun i h => by simp [bt, h]
theorem bt_range (s : ByteArray) (i : Int) : 0 ≤ bt s i ∧ bt s i ≤ 255 := by
  unfold bt
  split
  · rename_i h
    have := (s[i.toNat]'h).toNat_lt
    omega
  · omega
/-- m bytes from a place on, as a number. -/
def vraw (s : ByteArray) (at_ : Int) : Nat → Int
  | 0 => 0
  | m + 1 => vraw s at_ m * 256 + bt s (at_ + 1 + m)
theorem vraw_lt (s : ByteArray) (at_ : Int) (m : Nat) : 0 ≤ vraw s at_ m ∧ vraw s at_ m < 256 ^ m := by
  induction m with
  | zero => simp [vraw]
  | succ m ih =>
    have hb := bt_range s (at_ + 1 + m)
    simp only [vraw, Int.pow_succ]
    omega
def vval (s : ByteArray) (at_ : Int) : Int :=
  if bt s at_ ≤ 240 then bt s at_ else if bt s at_ < 249 then 240 + 256 * (bt s at_ - 241) + vraw s at_ 1 else if bt s at_ = 249 then 2288 + vraw s at_ 2 else vraw s at_ (bt s at_ - 247).toNat
/-- The number at a place, the place behind it, the error. -/
def vget (s : ByteArray) (at_ : Int) : Int × Int × Int :=
  if at_ < 0 ∨ (s.size : Int) < at_ then (0, 0, 1)
  else if at_ = s.size ∨ (s.size : Int) - at_ < vwant (bt s at_) then (0, 0, 3)
  else if vsize (vval s at_) ≠ vwant (bt s at_) then (0, 0, 4)
  else (vval s at_, at_ + vwant (bt s at_), 0)
theorem or_255 (m b : Int) (h0 : 0 ≤ m) (h : m < 72057594037927936) (b0 : 0 ≤ b) (b1 : b ≤ 255) : bits BinOp.or IntKind.u64 (m * 256) b = m * 256 + b := by
  obtain ⟨x, rfl⟩ := Int.eq_ofNat_of_zero_le h0
  obtain ⟨y, rfl⟩ := Int.eq_ofNat_of_zero_le b0
  have e : ((x : Int) * 256) = ((x * 256 : Nat) : Int) := by simp
  rw [e, bits_or_u64_nat _ _ (by omega) (by omega)]
  have := nat_join8' (x * 256) y (by omega) (by omega)
  rw [Nat.or_comm, this]; simp
set_option maxRecDepth 100000 in
set_option maxHeartbeats 1000000 in
theorem get_no (s : ByteArray) (at_ : Int) (w : World) (hs : s.size ≤ 9223372036854775807) (h : at_ < 0 ∨ (s.size : Int) < at_) :
    Calls Tryz.prog 134 #[.string s, .int .i64 at_] w fun e w' => e = .returned (.tuple #[.int .u64 0, .int .i64 0, .int .i64 1]) ∧ Below w.heap.size w w' := by
  go_enter Tryz.func134, Tryz.ntmps134
  go_wp2_with fail
  all_goals (go_ret3; exact ⟨rfl, Below.refl _ _⟩)
set_option maxRecDepth 100000 in
set_option maxHeartbeats 1000000 in
theorem get_end (s : ByteArray) (at_ : Int) (w : World) (hs : s.size ≤ 9223372036854775807) (h : at_ = (s.size : Int)) :
    Calls Tryz.prog 134 #[.string s, .int .i64 at_] w fun e w' => e = .returned (.tuple #[.int .u64 0, .int .i64 0, .int .i64 3]) ∧ Below w.heap.size w w' := by
  subst h
  go_enter Tryz.func134, Tryz.ntmps134
  go_wp2_with fail
  all_goals (go_ret3; exact ⟨rfl, Below.refl _ _⟩)
set_option maxRecDepth 100000 in
set_option maxHeartbeats 1000000 in
theorem get_short (s : ByteArray) (at_ : Int) (w : World) (hs : s.size ≤ 9223372036854775807) (h0 : 0 ≤ at_) (h1 : at_ < (s.size : Int)) (h2 : (s.size : Int) - at_ < vwant (bt s at_)) :
    Calls Tryz.prog 134 #[.string s, .int .i64 at_] w fun e w' => e = .returned (.tuple #[.int .u64 0, .int .i64 0, .int .i64 3]) ∧ Below w.heap.size w w' := by
  go_enter Tryz.func134, Tryz.ntmps134
  have hbt := bt_at s
  have hr := bt_range s at_
  go_wp2_with (go_at_call 184; refine (want_any _ _ hr.1 hr.2).mono ?_; rintro e w' ⟨rfl, rfl⟩)
  all_goals (go_ret3; exact ⟨rfl, Below.refl _ _⟩)
theorem vwant_le (c : Int) (h0 : 0 ≤ c) (h1 : c ≤ 255) : 1 ≤ vwant c ∧ vwant c ≤ 9 := by unfold vwant; grind
theorem p256 (i : Nat) (h : i ≤ 8) : (256 : Int) ^ i ≤ 18446744073709551616 := by
  have : i = 0 ∨ i = 1 ∨ i = 2 ∨ i = 3 ∨ i = 4 ∨ i = 5 ∨ i = 6 ∨ i = 7 ∨ i = 8 := by omega
  rcases this with rfl | rfl | rfl | rfl | rfl | rfl | rfl | rfl | rfl <;> decide
theorem p256' (i : Nat) (h : i ≤ 7) : (256 : Int) ^ i ≤ 72057594037927936 := by
  have : i = 0 ∨ i = 1 ∨ i = 2 ∨ i = 3 ∨ i = 4 ∨ i = 5 ∨ i = 6 ∨ i = 7 := by omega
  rcases this with rfl | rfl | rfl | rfl | rfl | rfl | rfl | rfl <;> decide
theorem vval_A {s : ByteArray} {at_ : Int} (h : bt s at_ ≤ 240) : vval s at_ = bt s at_ := by unfold vval; rw [if_pos h]
theorem vval_B {s : ByteArray} {at_ : Int} (h : 240 < bt s at_) (h' : bt s at_ < 249) (i : Nat) (hi : i = 1) : vval s at_ = vraw s at_ i + (240 + 256 * (bt s at_ - 241)) := by subst hi; unfold vval; rw [if_neg (by omega), if_pos h']; omega
theorem vval_C {s : ByteArray} {at_ : Int} (h : bt s at_ = 249) (i : Nat) (hi : i = 2) : vval s at_ = vraw s at_ i + 2288 := by subst hi; unfold vval; rw [if_neg (by omega), if_neg (by omega), if_pos h]; omega
theorem vval_D {s : ByteArray} {at_ : Int} (h : 249 < bt s at_) (i : Nat) (hi : (i : Int) = bt s at_ - 247) : vval s at_ = vraw s at_ i := by
  obtain rfl : i = (bt s at_ - 247).toNat := by omega
  unfold vval; rw [if_neg (by omega), if_neg (by omega), if_neg (by omega)]
theorem vwant_A {c : Int} (h : c ≤ 240) : vwant c = 1 := by unfold vwant; grind
theorem vwant_B {c : Int} (h : 240 < c) (h' : c < 249) : vwant c = 2 := by unfold vwant; grind
theorem vwant_C {c : Int} (h : c = 249) : vwant c = 3 := by unfold vwant; grind
theorem vwant_D {c : Int} (h : 249 < c) : vwant c = c - 246 := by unfold vwant; grind
/-- What Get answers where the bytes are there. -/
def GetPost (s : ByteArray) (at_ : Int) (e : Ending) : Prop :=
  (vsize (vval s at_) ≠ vwant (bt s at_) ∧ e = .returned (.tuple #[.int .u64 0, .int .i64 0, .int .i64 4])) ∨
  (vsize (vval s at_) = vwant (bt s at_) ∧ e = .returned (.tuple #[.int .u64 (vval s at_), .int .i64 (at_ + vwant (bt s at_)), .int .i64 0]))
theorem GetPost.no {s : ByteArray} {at_ : Int} (x : Int) (k : Nat) (hx : vval s at_ = x) (hk : vwant (bt s at_) = k) (h : (vsize x != (k : Int)) = true) : GetPost s at_ (.returned (.tuple #[.int .u64 0, .int .i64 0, .int .i64 4])) :=
  .inl ⟨by rw [hx, hk]; simpa using h, rfl⟩
theorem GetPost.yes {s : ByteArray} {at_ : Int} (x : Int) (k : Nat) (hx : vval s at_ = x) (hk : vwant (bt s at_) = k) (h : (vsize x != (k : Int)) = false) : GetPost s at_ (.returned (.tuple #[.int .u64 x, .int .i64 (at_ + k), .int .i64 0])) :=
  .inr ⟨by rw [hx, hk]; simpa using h, by rw [hx, hk]⟩
set_option maxRecDepth 100000 in
set_option maxHeartbeats 2000000 in
theorem get_main (s : ByteArray) (at_ : Int) (w : World) (hs : s.size ≤ 9223372036854775807) (h0 : 0 ≤ at_) (h1 : at_ < (s.size : Int)) (h2 : vwant (bt s at_) ≤ (s.size : Int) - at_) :
    Calls Tryz.prog 134 #[.string s, .int .i64 at_] w fun e w' => GetPost s at_ e ∧ Below w.heap.size w w' := by
  have hbt := bt_at s
  have hr := bt_range s at_
  have hw := vwant_le _ hr.1 hr.2
  obtain ⟨k, hk⟩ : ∃ k : Nat, vwant (bt s at_) = k := ⟨(vwant (bt s at_)).toNat, by omega⟩
  rw [hk] at h2 hw
  have hc : ∀ w, Calls Tryz.prog 184 #[.int .u8 (bt s at_)] w fun e w' => e = .returned (.int .i64 k) ∧ w' = w := fun w => (want_any _ _ hr.1 hr.2).mono fun _ _ h => ⟨by rw [h.1, hk], h.2.symm⟩
  have HC := Lib.hid hc
  have HK := Lib.hid hk
  clear hc hk
  have hne : (at_ == (s.size : Int)) = false := beq_eq_false_iff_ne.2 (by omega)
  go_enter Tryz.func134, Tryz.ntmps134
  go_wp2_with (go_at_call 184; refine (HC.out _).mono ?_; rintro e w' ⟨rfl, rfl⟩)
  go_quiet ((go_at_call 184; exact Calls.quiet_of_same (HC.out _)))
  go_wp2_with fail
  go_loop [45, 9] (fun c n => ∃ i : Nat, i + 1 ≤ k ∧ c = .int .i64 i ∧ n = .int .u64 (vraw s at_ i)) (fun c _ => k - (intOf c).toNat)
  case atStart => exact ⟨0, by omega, rfl, rfl⟩
  case round =>
    obtain ⟨i, hi, rfl, rfl⟩ := hrel
    have hv := vraw_lt s at_ i
    have hb := bt_range s (at_ + 1 + i)
    by_cases hlt : i + 1 < k
    · have hp := p256' i (by omega)
      have ho := or_255 (vraw s at_ i) (bt s (at_ + 1 + i)) hv.1 (by omega) hb.1 hb.2
      have hv1 : vraw s at_ i < 72057594037927936 := by omega
      have hv0 := hv.1
      clear hv hp
      go_wp2_with fail
      go_round
      case rel => exact ⟨i + 1, by omega, by go_num, rfl⟩
      case measure => simp [intOf]; omega
    · clear hb
      have hkk := HK.out
      by_cases cA : bt s at_ ≤ 240
      · have hval := Lib.hid (vval_A cA)
        have hi2 : (k : Int) ≤ 1 := by rw [vwant_A cA] at hkk; omega
        clear hkk hv
        cases hq : (vsize (bt s at_) != (k : Int))
        all_goals
          go_wp2_with (go_at_call 185; refine (size_any _ _ (by omega) (by omega)).mono ?_; rintro e w' ⟨rfl, hb1⟩)
          go_ret3
          refine ⟨?_, below_go (below_drewN (Below.refl _ _) _) hb1⟩
          first | exact GetPost.yes _ k hval.out HK.out hq | exact GetPost.no _ k hval.out HK.out hq
      · by_cases cB : bt s at_ < 249
        · have hi2 : (k : Int) = 2 := by rw [vwant_B (by omega) cB] at hkk; omega
          have hval := Lib.hid (vval_B (by omega) cB i (by omega))
          have h256 : vraw s at_ i ≤ 255 := by have h := vraw_lt s at_ 1; rw [show i = 1 by omega]; omega
          have hv0 := hv.1
          have hi3 : (k : Int) ≤ 2 := by omega
          clear hkk hv hi2
          cases hq : (vsize (vraw s at_ i + (240 + 256 * (bt s at_ - 241))) != (k : Int))
          all_goals
            go_wp2_with (go_at_call 185; refine (size_any _ _ (by omega) (by omega)).mono ?_; rintro e w' ⟨rfl, hb1⟩)
            go_ret3
            refine ⟨?_, below_go (below_drewN (Below.refl _ _) _) hb1⟩
            first | exact GetPost.yes _ k hval.out HK.out hq | exact GetPost.no _ k hval.out HK.out hq
        · by_cases cC : bt s at_ = 249
          · have hi2 : (k : Int) = 3 := by rw [vwant_C cC] at hkk; omega
            have hval := Lib.hid (vval_C cC i (by omega))
            have h256 : vraw s at_ i ≤ 65535 := by have h := vraw_lt s at_ 2; rw [show i = 2 by omega]; omega
            have hv0 := hv.1
            have hi3 : (k : Int) ≤ 3 := by omega
            have h49 : (bt s at_ == 249) = true := by simpa using cC
            have h248 : 249 ≤ bt s at_ := by omega
            clear hkk hv hi2 cC
            cases hq : (vsize (vraw s at_ i + 2288) != (k : Int))
            all_goals
              go_wp2_with (go_at_call 185; refine (size_any _ _ (by omega) (by omega)).mono ?_; rintro e w' ⟨rfl, hb1⟩)
              go_ret3
              refine ⟨?_, below_go (below_drewN (Below.refl _ _) _) hb1⟩
              first | exact GetPost.yes _ k hval.out HK.out hq | exact GetPost.no _ k hval.out HK.out hq
          · have hi2 : (k : Int) = bt s at_ - 246 := by rw [vwant_D (by omega)] at hkk; omega
            have hval := Lib.hid (vval_D (s := s) (at_ := at_) (by omega) i (by omega))
            have hp := p256 i (by omega)
            have h256 : vraw s at_ i ≤ 18446744073709551615 := by omega
            have hv0 := hv.1
            have h49 : (bt s at_ == 249) = false := by simpa using cC
            have h248 : 249 < bt s at_ := by omega
            clear hkk hv hi2 hp cC
            cases hq : (vsize (vraw s at_ i) != (k : Int))
            all_goals
              go_wp2_with (go_at_call 185; refine (size_any _ _ (by omega) (by omega)).mono ?_; rintro e w' ⟨rfl, hb1⟩)
              go_ret3
              refine ⟨?_, below_go (below_drewN (Below.refl _ _) _) hb1⟩
              first | exact GetPost.yes _ k hval.out HK.out hq | exact GetPost.no _ k hval.out HK.out hq
theorem vget_main {s : ByteArray} {at_ : Int} {e : Ending} (h0 : 0 ≤ at_) (h1 : at_ < (s.size : Int)) (h2 : vwant (bt s at_) ≤ (s.size : Int) - at_) (h : GetPost s at_ e) :
    e = .returned (.tuple #[.int .u64 (vget s at_).1, .int .i64 (vget s at_).2.1, .int .i64 (vget s at_).2.2]) := by
  unfold vget
  rw [if_neg (by omega), if_neg (by omega)]
  rcases h with ⟨h, rfl⟩ | ⟨h, rfl⟩
  · rw [if_pos h]
  · rw [if_neg (by simpa using h)]
theorem get_any (s : ByteArray) (at_ : Int) (w : World) (hs : s.size ≤ 9223372036854775807) :
    Calls Tryz.prog 134 #[.string s, .int .i64 at_] w fun e w' => e = .returned (.tuple #[.int .u64 (vget s at_).1, .int .i64 (vget s at_).2.1, .int .i64 (vget s at_).2.2]) ∧ Below w.heap.size w w' := by
  by_cases h : at_ < 0 ∨ (s.size : Int) < at_
  · have e : vget s at_ = (0, 0, 1) := by unfold vget; rw [if_pos h]
    rw [e]; exact get_no s at_ w hs h
  · by_cases h' : at_ = s.size
    · have e : vget s at_ = (0, 0, 3) := by unfold vget; rw [if_neg h, if_pos (Or.inl h')]
      rw [e]; exact get_end s at_ w hs h'
    · by_cases h2 : (s.size : Int) - at_ < vwant (bt s at_)
      · have e : vget s at_ = (0, 0, 3) := by unfold vget; rw [if_neg h, if_pos (Or.inr h2)]
        rw [e]; exact get_short s at_ w hs (by omega) (by omega) h2
      · exact (get_main s at_ w hs (by omega) (by omega) (by omega)).mono fun e w' he => ⟨vget_main (by omega) (by omega) (by omega) he.1, he.2⟩
end Go.Proofs.YtjabhhpmofodlaaGreatDoor
