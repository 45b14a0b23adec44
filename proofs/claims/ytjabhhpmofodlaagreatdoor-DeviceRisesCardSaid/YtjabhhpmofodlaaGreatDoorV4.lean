/- Contracts of package varint: Text, Cut. -/
import Derived.Test.YtjabhhpmofodlaaGreatDoorV3
namespace Go.Proofs.YtjabhhpmofodlaaGreatDoor
open Go.RowKit
set_option linter.unusedVariables false
set_option linter.unusedSimpArgs false
theorem vputL_length (n : Int) : (vputL n).length ≤ 9 := by
  have h := vbehind_le n
  unfold vputL
  split
  · simp
  · split
    · simp
    · split
      · simp
      · simp [vbig]; omega
theorem vput_size (n : Int) : (vput n).size ≤ 9 := by unfold vput; rw [strOfNums_size]; exact vputL_length n
theorem vval_range (s : ByteArray) (at_ : Int) : 0 ≤ vval s at_ ∧ vval s at_ ≤ 18446744073709551615 := by
  have hr := bt_range s at_
  unfold vval
  split
  · omega
  · split
    · have h1 := vraw_lt s at_ 1
      omega
    · split
      · have h1 := vraw_lt s at_ 2
        omega
      · have h1 := vraw_lt s at_ (bt s at_ - 247).toNat
        have h2 := p256 (bt s at_ - 247).toNat (by omega)
        omega
def vtext (s : ByteArray) : ByteArray := vput s.size ++ s
set_option maxHeartbeats 400000 in
theorem text_any (s : ByteArray) (w : World) (hs : s.size ≤ 9223372036854775798) :
    Calls Tryz.prog 76 #[.string s] w fun e w' => e = .returned (.string (vtext s)) ∧ Below w.heap.size w w' := by
  have hv := vput_size s.size
  have hn : ¬ 9223372036854775807 < (vput s.size).size + s.size := by omega
  go_enter Tryz.func76, Tryz.ntmps76
  go_wp2_with (go_at_call 75; refine (put_any _ _ (by omega) (by omega)).mono ?_; rintro e w' ⟨rfl, hb⟩)
  go_ret
  exact ⟨rfl, hb⟩
theorem vsize_pos (n : Int) : 1 ≤ vsize n ∧ vsize n ≤ 9 := by have := vbehind_le n; unfold vsize; grind
/-- What a success says, and that an error is beside zeros. -/
theorem vget_ok (s : ByteArray) (at_ : Int) : ((vget s at_).2.2 = 0 ∧ 0 ≤ at_ ∧ at_ < (vget s at_).2.1 ∧ (vget s at_).2.1 ≤ s.size ∧ 0 ≤ (vget s at_).1 ∧ (vget s at_).1 ≤ 18446744073709551615 ∧ (vget s at_).2.1 ≤ at_ + 9) ∨
    (1 ≤ (vget s at_).2.2 ∧ (vget s at_).2.2 ≤ 4 ∧ (vget s at_).1 = 0 ∧ (vget s at_).2.1 = 0) := by
  have hr := bt_range s at_
  have hw := vwant_le _ hr.1 hr.2
  unfold vget
  split
  · exact .inr ⟨by decide, by decide, rfl, rfl⟩
  · split
    · exact .inr ⟨by decide, by decide, rfl, rfl⟩
    · split
      · exact .inr ⟨by decide, by decide, rfl, rfl⟩
      · refine .inl ⟨rfl, by omega, ?_, ?_, ?_, ?_, ?_⟩
        · show at_ < at_ + _; omega
        · show at_ + _ ≤ _; omega
        · exact (vval_range s at_).1
        · exact (vval_range s at_).2
        · show at_ + _ ≤ at_ + 9; omega
def vcut (s : ByteArray) (at_ : Int) : ByteArray × Int × Int :=
  if (vget s at_).2.2 ≠ 0 then (⟨#[]⟩, 0, (vget s at_).2.2)
  else if 65536 < (vget s at_).1 then (⟨#[]⟩, 0, 2)
  else if (s.size : Int) - (vget s at_).2.1 < (vget s at_).1 then (⟨#[]⟩, 0, 3)
  else (s.extract (vget s at_).2.1.toNat ((vget s at_).2.1 + (vget s at_).1).toNat, (vget s at_).2.1 + (vget s at_).1, 0)
set_option maxRecDepth 100000 in
set_option maxHeartbeats 1000000 in
theorem cut_any (s : ByteArray) (at_ : Int) (w : World) (hs : s.size ≤ 9223372036854775807) :
    Calls Tryz.prog 135 #[.string s, .int .i64 at_] w fun e w' => e = .returned (.tuple #[.string (vcut s at_).1, .int .i64 (vcut s at_).2.1, .int .i64 (vcut s at_).2.2]) ∧ Below w.heap.size w w' := by
  have hok := vget_ok s at_
  have hg := get_any s at_ w hs
  unfold vcut
  generalize vget s at_ = r at *
  obtain ⟨n, to, er⟩ := r
  have HG := Lib.hid hg
  clear hg
  simp only [] at hok
  rcases hok with ⟨h1, h2, h3, h4, h5, h6, h7⟩ | ⟨h1, h1', h2, h3⟩
  · simp only [h1]
    by_cases hn : 65536 < n
    · go_enter Tryz.func135, Tryz.ntmps135
      go_wp2_with (go_at_call 134; refine HG.out.mono ?_; rintro e w' ⟨rfl, hb⟩)
      go_ret3
      exact ⟨by simp [hn], hb⟩
    · by_cases hc : (s.size : Int) - to < n
      · go_enter Tryz.func135, Tryz.ntmps135
        go_wp2_with (go_at_call 134; refine HG.out.mono ?_; rintro e w' ⟨rfl, hb⟩)
        go_ret3
        exact ⟨by simp [hn, hc], hb⟩
      · go_enter Tryz.func135, Tryz.ntmps135
        go_wp2_with (go_at_call 134; refine HG.out.mono ?_; rintro e w' ⟨rfl, hb⟩)
        go_ret3
        exact ⟨by simp [hn, hc], hb⟩
  · go_enter Tryz.func135, Tryz.ntmps135
    go_wp2_with (go_at_call 134; refine HG.out.mono ?_; rintro e w' ⟨rfl, hb⟩)
    go_ret3
    exact ⟨by simp [show er ≠ 0 by omega], hb⟩
end Go.Proofs.YtjabhhpmofodlaaGreatDoor
