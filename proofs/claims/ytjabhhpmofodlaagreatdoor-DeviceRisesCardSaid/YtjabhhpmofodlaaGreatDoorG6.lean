/- device.must, num. -/
import Derived.Test.YtjabhhpmofodlaaGreatDoorG5
import Derived.WalkSmall
namespace Go.Proofs.YtjabhhpmofodlaaGreatDoor
open Go.RowKit
set_option linter.unusedVariables false
set_option linter.unusedSimpArgs false
abbrev PE : List PanicEntry := [{ v := .iface 23 (.int .i64 4), recovered := false }]
theorem must_ok (w : World) : Calls Tryz.prog 65 #[.bool true] w fun e w' => e = .returned (.tuple #[]) ∧ w = w' := by
  go_enter Tryz.func65, Tryz.ntmps65
  go_wp2
  go_end0
  exact ⟨rfl, rfl⟩
theorem must_bad (w : World) : Calls Tryz.prog 65 #[.bool false] w fun e w' => e = .panicked PE ∧ w = w' := by
  go_enter Tryz.func65, Tryz.ntmps65
  go_wp2
  exact ⟨rfl, rfl, rfl⟩
def numR (s : ByteArray) (a top : Int) : Option (Int × Int) := if (vget s a).2.2 = 0 ∧ (vget s a).1 ≤ top then some ((vget s a).1, (vget s a).2.1) else none
set_option maxRecDepth 100000 in
theorem num_ok (s : ByteArray) (a top : Int) (n to : Int) (w : World) (hs : s.size ≤ 9223372036854775807) (ht : 0 ≤ top ∧ top ≤ 1099511627776) (h : numR s a top = some (n, to)) :
    Calls Tryz.prog 63 #[.string s, .int .i64 a, .int .i64 top] w fun e w' => e = .returned (.tuple #[.int .i64 n, .int .i64 to]) ∧ Below w.heap.size w w' := by
  have hok := vget_ok s a
  have hg := get_any s a w hs
  unfold numR at h
  generalize vget s a = r at *
  obtain ⟨n', to', er⟩ := r
  simp only at h hok hg
  split at h
  · rename_i hc
    simp only [Option.some.injEq, Prod.mk.injEq] at h
    obtain ⟨rfl, rfl⟩ := h
    obtain ⟨rfl, hle⟩ := hc
    have hn : 0 ≤ n' := by omega
    have HG := Lib.hid hg
    clear hg hok
    go_enter Tryz.func63, Tryz.ntmps63
    go_wp2_with (first | (go_at_call 134; refine HG.out.mono ?_; rintro e w' ⟨rfl, hb⟩) | (go_at_call 65; refine (must_ok _).mono ?_; rintro e w' ⟨rfl, rfl⟩))
    go_ret2
    exact ⟨rfl, hb⟩
  · cases h
set_option maxRecDepth 100000 in
theorem num_bad (s : ByteArray) (a top : Int) (w : World) (hs : s.size ≤ 9223372036854775807) (ht : 0 ≤ top ∧ top ≤ 1099511627776) (h : numR s a top = none) :
    Calls Tryz.prog 63 #[.string s, .int .i64 a, .int .i64 top] w fun e w' => e = .panicked PE ∧ Below w.heap.size w w' := by
  have hok := vget_ok s a
  have hg := get_any s a w hs
  unfold numR at h
  generalize vget s a = r at *
  obtain ⟨n', to', er⟩ := r
  simp only at h hok hg
  split at h
  · cases h
  · rename_i hc
    have hn : 0 ≤ n' := by omega
    have HG := Lib.hid hg
    by_cases he : er = 0
    · subst he
      have hlt : ¬ n' ≤ top := by omega
      have hd : decide (n' ≤ top) = false := by simpa using hlt
      clear hg hok hc h
      go_enter Tryz.func63, Tryz.ntmps63
      go_wp2_with (first | (go_at_call 134; refine HG.out.mono ?_; rintro e w' ⟨rfl, hb⟩) | (go_at_call 65; refine (must_bad _).mono ?_; rintro e w' ⟨rfl, rfl⟩))
      exact ⟨rfl, rfl, hb⟩
    · have he' : (er == 0) = false := by simpa using he
      clear hg hok hc h
      go_enter Tryz.func63, Tryz.ntmps63
      go_wp2_with (first | (go_at_call 134; refine HG.out.mono ?_; rintro e w' ⟨rfl, hb⟩) | (go_at_call 65; refine (must_bad _).mono ?_; rintro e w' ⟨rfl, rfl⟩))
      exact ⟨rfl, rfl, hb⟩
end Go.Proofs.YtjabhhpmofodlaaGreatDoor
