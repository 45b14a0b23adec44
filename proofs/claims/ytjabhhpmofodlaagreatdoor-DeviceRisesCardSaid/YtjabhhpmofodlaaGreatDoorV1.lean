/- Contracts of package varint's small functions: want, wides, behind, Size. -/
import Derived.Test.YtjabhhpmofodlaaGreatDoorProg
import Derived.Test.YtjabhhpmofodlaaGreatDoorLib
namespace Go.Proofs.YtjabhhpmofodlaaGreatDoor
open Go.RowKit
def vwant (c : Int) : Int := if c ≤ 240 then 1 else if c < 249 then 2 else if c = 249 then 3 else c - 246
set_option maxHeartbeats 400000 in
theorem want_any (c : Int) (w : World) (h0 : 0 ≤ c) (h1 : c ≤ 255) :
    Calls Tryz.prog 184 #[.int .u8 c] w fun e w' => e = .returned (.int .i64 (vwant c)) ∧ w = w' := by
  go_enter Tryz.func184, Tryz.ntmps184
  go_wp2
  all_goals (go_ret; refine ⟨ret_i ?_, rfl⟩; go_tidy; unfold vwant; grind)
set_option maxHeartbeats 400000 in
theorem wides_any (w : World) :
    Calls Tryz.prog 187 #[] w fun e w' => e = .returned (.agg #[.int .u64 0, .int .u64 0xff, .int .u64 0xffff, .int .u64 0xffffff, .int .u64 0xffffffff, .int .u64 0xffffffffff, .int .u64 0xffffffffffff, .int .u64 0xffffffffffffff, .int .u64 0xffffffffffffffff]) ∧ Below w.heap.size w w' := by
  have f0 : bits .or .u64 0 255 = 255 := by kernel_rfl
  have f1 : bits .or .u64 65280 255 = 65535 := by kernel_rfl
  have f2 : bits .or .u64 16776960 255 = 16777215 := by kernel_rfl
  have f3 : bits .or .u64 4294967040 255 = 4294967295 := by kernel_rfl
  have f4 : bits .or .u64 1099511627520 255 = 1099511627775 := by kernel_rfl
  have f5 : bits .or .u64 281474976710400 255 = 281474976710655 := by kernel_rfl
  have f6 : bits .or .u64 72057594037927680 255 = 72057594037927935 := by kernel_rfl
  have f7 : bits .or .u64 18446744073709551360 255 = 18446744073709551615 := by kernel_rfl
  go_enter Tryz.func187, Tryz.ntmps187
  go_wp2
  refine wp_loop_rounds 9 ?_
  iterate 9 (rw [rounds_succ]; go_wp2)
  refine bodyPost_ret (v := .agg #[.int .u64 0, .int .u64 0xff, .int .u64 0xffff, .int .u64 0xffffff, .int .u64 0xffffffff, .int .u64 0xffffffffff, .int .u64 0xffffffffffff, .int .u64 0xffffffffffffff, .int .u64 0xffffffffffffffff]) (by simp [results, Tryz.results187, go_sem]) rfl ⟨rfl, ?_⟩
  exact ((Below.refl _ _).alloc (Nat.le_refl _) _).alloc (by simp) _
def vbehind (n : Int) : Int := if n ≤ 0xffffff then 3 else if n ≤ 0xffffffff then 4 else if n ≤ 0xffffffffff then 5 else if n ≤ 0xffffffffffff then 6 else if n ≤ 0xffffffffffffff then 7 else 8
theorem vbehind_le (n : Int) : 3 ≤ vbehind n ∧ vbehind n ≤ 8 := by unfold vbehind; grind
set_option maxHeartbeats 1000000 in
theorem behind_any (n : Int) (w : World) (h0 : 0 ≤ n) (h1 : n ≤ 18446744073709551615) :
    Calls Tryz.prog 140 #[.int .u64 n] w fun e w' => e = .returned (.int .i64 (vbehind n)) ∧ Below w.heap.size w w' := by
  go_enter Tryz.func140, Tryz.ntmps140
  go_wp2_with (go_at_call 187; refine (wides_any _).mono ?_; rintro e w' ⟨rfl, hb⟩)
  refine wp_loop_rounds 6 ?_
  iterate 6 (all_goals (try (rw [rounds_succ]; go_wp2)))
  all_goals (go_ret; refine ⟨ret_i ?_, hb.alloc hb.size _⟩; go_tidy; unfold vbehind; grind)
def vsize (n : Int) : Int := if n ≤ 240 then 1 else if n ≤ 2287 then 2 else if n ≤ 67823 then 3 else 1 + vbehind n
set_option maxHeartbeats 1000000 in
theorem size_any (n : Int) (w : World) (h0 : 0 ≤ n) (h1 : n ≤ 18446744073709551615) :
    Calls Tryz.prog 185 #[.int .u64 n] w fun e w' => e = .returned (.int .i64 (vsize n)) ∧ Below w.heap.size w w' := by
  have hv := vbehind_le n
  go_enter Tryz.func185, Tryz.ntmps185
  go_wp2_with (go_at_call 140; refine (behind_any _ _ h0 h1).mono ?_; rintro e w' ⟨rfl, hb⟩)
  all_goals (go_ret; refine ⟨ret_i ?_, by first | assumption | exact Below.refl _ _⟩; go_tidy; unfold vsize; grind)
end Go.Proofs.YtjabhhpmofodlaaGreatDoor
