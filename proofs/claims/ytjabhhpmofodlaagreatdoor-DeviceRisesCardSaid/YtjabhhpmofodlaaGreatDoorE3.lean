/- event.reader: its number. -/
import Derived.Test.YtjabhhpmofodlaaGreatDoorE2
import Derived.RangeFuncNested
namespace Go.Proofs.YtjabhhpmofodlaaGreatDoor
open Go.RowKit
set_option linter.unusedVariables false
set_option linter.unusedSimpArgs false
/-- The reader's three boxes: the text, the place, the first error. -/
def Rd (w : World) (B : Nat) (s : ByteArray) (a bad : Int) : Prop := Boxed w B 9 (.string s) ∧ Boxed w (B + 1) 3 (.int .i64 a) ∧ Boxed w (B + 2) 23 (.int .i64 bad)
theorem Boxed.below {W W' : World} {B t : Nat} {v : Value} {k : Nat} (h : Boxed W B t v) (hb : Below k W W') (hk : B < k) : Boxed W' B t v := (hb.block B hk).trans h
theorem Rd.below {W W' : World} {B : Nat} {s : ByteArray} {a bad : Int} {k : Nat} (h : Rd W B s a bad) (hb : Below k W W') (hk : B + 2 < k) : Rd W' B s a bad := ⟨Boxed.below h.1 hb (by omega), Boxed.below h.2.1 hb (by omega), Boxed.below h.2.2 hb hk⟩
theorem Rd.set1 {W : World} {B : Nat} {s : ByteArray} {a bad : Int} (h : Rd W B s a bad) (a' : Int) : Rd (W.setCell ⟨B + 1, 0, none⟩ (.int .i64 a')) B s a' bad := ⟨Boxed.other h.1 (by omega) _, h.2.1.set _, Boxed.other h.2.2 (by omega) _⟩
theorem Rd.set2 {W : World} {B : Nat} {s : ByteArray} {a bad : Int} (h : Rd W B s a bad) (b' : Int) : Rd (W.setCell ⟨B + 2, 0, none⟩ (.int .i64 b')) B s a b' := ⟨Boxed.other h.1 (by omega) _, Boxed.other h.2.1 (by omega) _, h.2.2.set _⟩
def rnum (s : ByteArray) (a bad : Int) : Int × Int × Int :=
  if bad ≠ 0 then (-1, a, bad) else if (vget s a).2.2 ≠ 0 then (-1, a, (vget s a).2.2) else (min (vget s a).1 1099511627777, (vget s a).2.1, 0)
set_option maxRecDepth 100000 in
set_option maxHeartbeats 2000000 in
theorem rnum_any (s : ByteArray) (a bad : Int) (B : Nat) (w : World) (hs : s.size ≤ 9223372036854775807) (h : Rd w B s a bad) :
    Calls Tryz.prog 208 #[.pointer (some ⟨B, 0, none⟩), .pointer (some ⟨B + 1, 0, none⟩), .pointer (some ⟨B + 2, 0, none⟩)] w fun e w' => e = .returned (.int .i64 (rnum s a bad).1) ∧ Rd w' B s (rnum s a bad).2.1 (rnum s a bad).2.2 ∧ Turn (fun i => i = B + 1 ∨ i = B + 2) w w' := by
  have hok := vget_ok s a
  have hg := fun w => get_any s a w hs
  unfold rnum
  generalize vget s a = r at *
  obtain ⟨n, to, er⟩ := r
  have HG := Lib.hid hg
  clear hg
  simp only at hok
  have hB := h.2.2.lt
  have c0 := h.1.cell
  have c1 := h.2.1.cell
  have HH := Lib.hid h
  clear h
  by_cases hbad : bad = 0
  · subst hbad
    rw [if_neg (by simp)]
    by_cases her : er = 0
    · subst her
      rw [if_neg (by simp)]
      simp only
      have hn : 0 ≤ n ∧ n ≤ 18446744073709551615 := by omega
      go_enter Tryz.func208, Tryz.ntmps208
      go_wp2_with (go_at_call 134; refine (HG.out _).mono ?_; rintro e w' ⟨rfl, hb⟩; have hr := HH.out.below hb hB; have d1 := hr.2.1.cell; have d2 := hr.2.2.cell; have f1 := hr.2.1.frozen; have f2 := hr.2.2.frozen)
      go_ret
      exact ⟨rfl, hr.set1 _, (Turn.of_below' hb).setCell (fun _ => .inl rfl) _⟩
    · have he' : (er != 0) = true := by simpa using her
      rw [if_pos (by simpa using her)]
      simp only
      go_enter Tryz.func208, Tryz.ntmps208
      go_wp2_with (go_at_call 134; refine (HG.out _).mono ?_; rintro e w' ⟨rfl, hb⟩; have hr := HH.out.below hb hB; have d1 := hr.2.1.cell; have d2 := hr.2.2.cell; have f1 := hr.2.1.frozen; have f2 := hr.2.2.frozen)
      go_ret
      exact ⟨rfl, hr.set2 _, (Turn.of_below' hb).setCell (fun _ => .inr rfl) _⟩
  · have hb' : (bad != 0) = true := by simpa using hbad
    rw [if_pos hbad]
    simp only
    go_enter Tryz.func208, Tryz.ntmps208
    go_wp2_with (go_at_call 134; refine (HG.out _).mono ?_; rintro e w' ⟨rfl, hb⟩; have hr := HH.out.below hb hB; have d1 := hr.2.1.cell; have d2 := hr.2.2.cell; have f1 := hr.2.1.frozen; have f2 := hr.2.2.frozen)
    go_ret
    exact ⟨rfl, hr, Turn.of_below' hb⟩
def rtext (s : ByteArray) (a bad : Int) : ByteArray × Int × Int :=
  if bad ≠ 0 then (⟨#[]⟩, a, bad) else if (vcut s a).2.2 ≠ 0 then (⟨#[]⟩, a, (vcut s a).2.2) else ((vcut s a).1, (vcut s a).2.1, 0)
set_option maxRecDepth 100000 in
set_option maxHeartbeats 2000000 in
theorem rtext_any (s : ByteArray) (a bad : Int) (B : Nat) (w : World) (hs : s.size ≤ 9223372036854775807) (h : Rd w B s a bad) :
    Calls Tryz.prog 209 #[.pointer (some ⟨B, 0, none⟩), .pointer (some ⟨B + 1, 0, none⟩), .pointer (some ⟨B + 2, 0, none⟩)] w fun e w' => e = .returned (.string (rtext s a bad).1) ∧ Rd w' B s (rtext s a bad).2.1 (rtext s a bad).2.2 ∧ Turn (fun i => i = B + 1 ∨ i = B + 2) w w' := by
  have hg := fun w => cut_any s a w hs
  unfold rtext
  generalize vcut s a = r at *
  obtain ⟨n, to, er⟩ := r
  have HG := Lib.hid hg
  clear hg
  have hB := h.2.2.lt
  have c0 := h.1.cell
  have c1 := h.2.1.cell
  have HH := Lib.hid h
  clear h
  by_cases hbad : bad = 0
  · subst hbad
    rw [if_neg (by simp)]
    by_cases her : er = 0
    · subst her
      rw [if_neg (by simp)]
      simp only
      go_enter Tryz.func209, Tryz.ntmps209
      go_wp2_with (go_at_call 135; refine (HG.out _).mono ?_; rintro e w' ⟨rfl, hb⟩; have hr := HH.out.below hb hB; have d1 := hr.2.1.cell; have d2 := hr.2.2.cell; have f1 := hr.2.1.frozen; have f2 := hr.2.2.frozen)
      go_ret
      exact ⟨rfl, hr.set1 _, (Turn.of_below' hb).setCell (fun _ => .inl rfl) _⟩
    · have he' : (er != 0) = true := by simpa using her
      rw [if_pos (by simpa using her)]
      simp only
      go_enter Tryz.func209, Tryz.ntmps209
      go_wp2_with (go_at_call 135; refine (HG.out _).mono ?_; rintro e w' ⟨rfl, hb⟩; have hr := HH.out.below hb hB; have d1 := hr.2.1.cell; have d2 := hr.2.2.cell; have f1 := hr.2.1.frozen; have f2 := hr.2.2.frozen)
      go_ret
      exact ⟨rfl, hr.set2 _, (Turn.of_below' hb).setCell (fun _ => .inr rfl) _⟩
  · have hb' : (bad != 0) = true := by simpa using hbad
    rw [if_pos hbad]
    simp only
    go_enter Tryz.func209, Tryz.ntmps209
    go_wp2_with (go_at_call 135; refine (HG.out _).mono ?_; rintro e w' ⟨rfl, hb⟩; have hr := HH.out.below hb hB; have d1 := hr.2.1.cell; have d2 := hr.2.2.cell; have f1 := hr.2.1.frozen; have f2 := hr.2.2.frozen)
    go_ret
    exact ⟨rfl, hr, Turn.of_below' hb⟩
theorem rend_any (s : ByteArray) (a bad : Int) (B : Nat) (w : World) (h : Rd w B s a bad) :
    Calls Tryz.prog 210 #[.pointer (some ⟨B + 1, 0, none⟩), .pointer (some ⟨B + 2, 0, none⟩)] w fun e w' => e = .returned (.tuple #[.int .i64 a, .int .i64 bad]) ∧ Below w.heap.size w w' := by
  have c1 := h.2.1.cell
  have c2 := h.2.2.cell
  go_enter Tryz.func210, Tryz.ntmps210
  go_wp2_with fail
  go_quiet (fail)
  go_wp2
  go_ret2
  exact ⟨rfl, rfl, rfl, rfl, Nat.le_refl _, fun _ _ => rfl⟩
def rdNum (B : Nat) : Value := .func (.func 208) #[] #[.pointer (some ⟨B, 0, none⟩), .pointer (some ⟨B + 1, 0, none⟩), .pointer (some ⟨B + 2, 0, none⟩)]
def rdText (B : Nat) : Value := .func (.func 209) #[] #[.pointer (some ⟨B, 0, none⟩), .pointer (some ⟨B + 1, 0, none⟩), .pointer (some ⟨B + 2, 0, none⟩)]
def rdEnd (B : Nat) : Value := .func (.func 210) #[] #[.pointer (some ⟨B + 1, 0, none⟩), .pointer (some ⟨B + 2, 0, none⟩)]
theorem reader_any (s : ByteArray) (a : Int) (w : World) :
    Calls Tryz.prog 186 #[.string s, .int .i64 a] w fun e w' => e = .returned (.tuple #[rdNum w.heap.size, rdText w.heap.size, rdEnd w.heap.size]) ∧ Rd w' w.heap.size s a 0 ∧ Below w.heap.size w w' := by
  have hmf : ∀ (fn : Fn) (first cap : Array Value) (w : World), (Instr.makeFunc fn first cap).run Tryz.prog w = .ok (.func fn first cap) w := fun _ _ _ _ => rfl
  go_enter Tryz.func186, Tryz.ntmps186
  go_wp2
  go_ret3
  refine ⟨rfl, ⟨?_, ?_, ?_⟩, below_al (below_al (below_al (Below.refl _ _) _) _) _⟩
  · exact ((Boxed.new w 9 (.string s)).alloc _).alloc _
  · have := (Boxed.new (w.alloc (.cells #[.string s] 9)) 3 (.int .i64 a)).alloc (.cells #[.int .i64 0] 23)
    simpa using this
  · have := Boxed.new ((w.alloc (.cells #[.string s] 9)).alloc (.cells #[.int .i64 a] 3)) 23 (.int .i64 0)
    simpa using this
end Go.Proofs.YtjabhhpmofodlaaGreatDoor
