/- event.within, Right. -/
import Derived.Test.YtjabhhpmofodlaaGreatDoorD0
namespace Go.Proofs.YtjabhhpmofodlaaGreatDoor
open Go.RowKit
set_option linter.unusedVariables false
set_option linter.unusedSimpArgs false
def inB (n a b : Int) : Bool := decide (a ≤ n) && decide (n ≤ b)
theorem within_any (n a b : Int) (w : World) : Calls Tryz.prog 150 #[.int .i64 n, .int .i64 a, .int .i64 b] w fun e w' => e = .returned (.bool (inB n a b)) ∧ w = w' := by
  go_enter Tryz.func150, Tryz.ntmps150
  go_wp2
  all_goals go_ret
  all_goals (exact ⟨ret_b (by simp_all [inB]; try omega), rfl⟩)
structure Ev where
  o : Int
  s : Int
  t : ByteArray
  l : ByteArray
  k : Int
def evV (e : Ev) : Value := .agg #[.int .i64 e.o, .int .i64 e.s, .string e.t, .string e.l, .int .i64 e.k]
abbrev maxNum : Int := 1099511627776
def evRight (e : Ev) : Bool := inB e.o 0 maxNum && inB e.s 1 maxNum && inB e.k 0 1000 && rightB e.t && decide (e.l.size ≤ 64)
set_option maxRecDepth 100000 in
set_option maxHeartbeats 2000000 in
theorem evright_any (e : Ev) (w : World) (ht : e.t.size ≤ 1000000000) : Calls Tryz.prog 88 #[evV e] w fun r w' => r = .returned (.bool (evRight e)) ∧ Below w.heap.size w w' := by
  obtain ⟨o, s, t, l, k⟩ := e
  unfold evV
  simp only at ht ⊢
  have hR := Lib.hid (right_any t · ht)
  go_enter Tryz.func88, Tryz.ntmps88
  go_wp2_with (first | (go_at_call 150; refine (within_any _ _ _ _).mono ?_; rintro e w' ⟨rfl, rfl⟩) | (go_at_call 151; refine (hR.out _).mono ?_; rintro e w2 ⟨rfl, hb2⟩; have hc3 : w2.cell? ⟨w.heap.size, 3, none⟩ = some (.string l) := (hb2.cell (p := ⟨w.heap.size, 3, none⟩) (by simp)).trans (cell_arr (World.alloc_heap_new w _) 3)))
  all_goals go_ret
  all_goals (refine ⟨ret_b (by simp_all [evRight, maxNum]; try omega), ?_⟩)
  all_goals (first | exact below_al (Below.refl _ _) _ | exact (below_al (Below.refl _ _) _).trans (hb2.mono (by simp)))
end Go.Proofs.YtjabhhpmofodlaaGreatDoor
