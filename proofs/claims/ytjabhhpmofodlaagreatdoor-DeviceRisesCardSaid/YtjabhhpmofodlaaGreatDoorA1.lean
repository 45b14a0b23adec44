/- The references' topics: Levels, Name, Right, Filter. -/
import Derived.Test.YtjabhhpmofodlaaGreatDoorT3
import Derived.Test.YtjabhhpmofodlaaGreatDoorO1
import Derived.Test.YtjabhhpmofodlaaGreatDoorS1
import Derived.Deep.QuietTactic
import Derived.BigQuiet
namespace Go.Proofs.YtjabhhpmofodlaaGreatDoor
open Go.RowKit
set_option linter.unusedVariables false
set_option linter.unusedSimpArgs false
/-! ### plain: levels, cut at the sign -/
theorem lv_end (p : List UInt8) (hp : ∀ c ∈ p, c ≠ 47) : lv p = [p] := by
  induction p with
  | nil => rfl
  | cons c r ih =>
    unfold lv
    rw [if_neg (hp c (by simp)), ih fun x hx => hp x (by simp [hx])]; rfl
theorem lv_sep (p r : List UInt8) (hp : ∀ c ∈ p, c ≠ 47) : lv (p ++ 47 :: r) = p :: lv r := by
  induction p with
  | nil => simp [lv]
  | cons c q ih =>
    rw [List.cons_append, lv]
    rw [if_neg (hp c (by simp)), ih fun x hx => hp x (by simp [hx])]; rfl
theorem str_ext (s : ByteArray) (a i : Nat) : s.extract a i = str ((s.data.toList.drop a).take (i - a)) := by
  have h : (s.extract a i).data = ((s.data.toList.drop a).take (i - a)).toArray := by
    rw [ByteArray.data_extract]
    apply Array.toList_inj.1
    rw [Array.toList_extract, List.extract_eq_take_drop]
  cases hx : s.extract a i
  rw [hx] at h
  simp only at h
  rw [h]; rfl
theorem bt_list (s : ByteArray) (k : Nat) (h : k < s.size) : bt s k = ((s.data.toList[k]'(by have : s.data.toList.length = s.size := (by show _ = s.data.size; simp); omega)).toNat : Int) := by
  unfold bt
  have e : ((k : Int)).toNat = k := by omega
  rw [dif_pos (by rw [e]; exact h)]
  simp only [e]; rfl
/-- Levels so far, and what is left: how the reference goes. -/
structure LvR (s : ByteArray) (a i : Nat) (L : List ByteArray) : Prop where
  ai : a ≤ i
  is : i ≤ s.size
  ll : L.length ≤ i
  eq : levels s = L ++ (lv (s.data.toList.drop a)).map str
  no : ∀ c ∈ (s.data.toList.drop a).take (i - a), c ≠ 47
theorem LvR.start (s : ByteArray) : LvR s 0 0 [] := ⟨Nat.le_refl _, Nat.zero_le _, Nat.le_refl _, by simp [levels], by simp⟩
theorem size_list (s : ByteArray) : s.data.toList.length = s.size := by show _ = s.data.size; simp
theorem LvR.other {s : ByteArray} {a i : Nat} {L : List ByteArray} (h : LvR s a i L) (hi : i < s.size) (hc : bt s i ≠ 47) : LvR s a (i + 1) L := by
  refine ⟨by have := h.ai; omega, hi, by have := h.ll; omega, h.eq, ?_⟩
  intro c hm
  have hl := size_list s
  have hai := h.ai
  rw [show i + 1 - a = (i - a) + 1 by omega, List.take_add_one, List.mem_append] at hm
  rcases hm with hm | hm
  · exact h.no c hm
  · rw [List.getElem?_drop, show a + (i - a) = i by omega, List.getElem?_eq_getElem (by omega)] at hm
    simp only [Option.toList_some, List.mem_singleton] at hm
    subst hm
    intro e
    apply hc
    rw [bt_list s i hi, e]; rfl
theorem LvR.sign {s : ByteArray} {a i : Nat} {L : List ByteArray} (h : LvR s a i L) (hi : i < s.size) (hc : bt s i = 47) : LvR s (i + 1) (i + 1) (L ++ [s.extract a i]) := by
  have hl := size_list s
  have hai := h.ai
  have h47 : s.data.toList[i]'(by omega) = 47 := by
    rw [bt_list s i hi] at hc
    apply UInt8.toNat_inj.1
    show _ = 47
    omega
  have hsp : s.data.toList.drop a = (s.data.toList.drop a).take (i - a) ++ 47 :: s.data.toList.drop (i + 1) := by
    conv => lhs; rw [← List.take_append_drop (i - a) (s.data.toList.drop a)]
    congr 1
    rw [List.drop_drop, show a + (i - a) = i by omega, List.drop_eq_getElem_cons (by omega), h47]
  refine ⟨Nat.le_refl _, hi, by simp; have := h.ll; omega, ?_, by simp⟩
  rw [h.eq, hsp, lv_sep _ _ h.no, str_ext]; simp
theorem LvR.stop {s : ByteArray} {a : Nat} {L : List ByteArray} (h : LvR s a s.size L) : levels s = L ++ [s.extract a s.size] := by
  have hl := size_list s
  have hai := h.ai
  have e : (s.data.toList.drop a).take (s.size - a) = s.data.toList.drop a := List.take_of_length_le (by rw [List.length_drop]; omega)
  have hno := h.no
  rw [e] at hno
  rw [h.eq, lv_end _ hno, str_ext, e, List.map_cons, List.map_nil]
set_option maxRecDepth 100000 in
set_option maxHeartbeats 4000000 in
theorem rlevels_any (s : ByteArray) (w : World) (hs : s.size ≤ 1000000000) :
    Calls Tryz.prog 93 #[.string s] w fun e w' => (∃ v, e = .returned v ∧ OwnS w' w.heap.size v (levels s)) ∧ Below w.heap.size w w' := by
  go_enter Tryz.func93, Tryz.ntmps93
  go_wp2
  go_loopw [3, 4, 5] (fun v f c wr => ∃ (a i : Nat) (L : List ByteArray), f = .int .i64 a ∧ c = .int .i64 i ∧ LvR s a i L ∧ wr.ownsRow w.heap.size 9 1 v (strs L).length (strs L) ∧ Below w.heap.size w wr) (fun _ _ c _ => s.size - (intOf c).toNat)
  case atStart => exact ⟨0, 0, [], rfl, rfl, LvR.start s, own_lit w w.heap.size 9 [] (Nat.le_refl _) (by simp [maxLen]), below_al (Below.refl _ _) _⟩
  case round =>
    obtain ⟨a, i, L, rfl, rfl, hL, hrow, hbr⟩ := hrel
    have hai := hL.ai
    have his := hL.is
    have hll := hL.ll
    have hsl := strs_length L
    have hszw : w.heap.size ≤ wr.heap.size := hbr.size
    have HL := Lib.hid hL
    have HSL := Lib.hid hsl
    have HROW := Lib.hid hrow
    have HBR := Lib.hid hbr
    clear hL hsl hrow hbr
    by_cases hlt : i < s.size
    · have hb : ((s[i]'hlt).toNat : Int) = bt s i := by simp [bt, hlt]
      by_cases hc : bt s i = 47
      · have hq : (((s[i]'hlt).toNat : Int) == 47) = true := by rw [hb]; simpa using hc
        have HN := Lib.hid (HL.out.sign hlt hc)
        clear hc hb
        go_wp2_with (at_builtin; go_must (refine app1 (w0 := wr) (base := w.heap.size) rfl _ _ 42 9 (.string ⟨#[]⟩) 16 rfl Tryz.underlying42 info9 rfl (by decide) u3 (strs L) (.string (s.extract a i)) rfl (by first | rfl | (simp; rfl)) rfl HROW.out (Below.refl _ _) hszw (by rw [HSL.out]; omega) ?_); intro v5 w5 hrow5 hb5 hsz5 _ _)
        refine ⟨⟨i + 1, i + 1, _, by simp, by simp, HN.out, ?_, HBR.out.trans hb5⟩, by simp [intOf]; omega⟩
        rw [← strs_snoc]; exact hrow5
      · have hq : (((s[i]'hlt).toNat : Int) == 47) = false := by rw [hb]; simpa using hc
        have HN := Lib.hid (HL.out.other hlt hc)
        clear hc hb
        go_wp2_with fail
        exact ⟨⟨a, i + 1, _, rfl, by simp, HN.out, HROW.out, HBR.out⟩, by simp [intOf]; omega⟩
    · have hii : i = s.size := by omega
      subst hii
      have HN := Lib.hid HL.out.stop
      go_wp2_with (at_builtin; go_must (refine app1 (w0 := wr) (base := w.heap.size) rfl _ _ 42 9 (.string ⟨#[]⟩) 16 rfl Tryz.underlying42 info9 rfl (by decide) u3 (strs L) (.string (s.extract a s.size)) rfl (by first | rfl | (simp; rfl)) rfl HROW.out (Below.refl _ _) hszw (by rw [HSL.out]; omega) ?_); intro v5 w5 hrow5 hb5 hsz5 _ _)
      go_ret
      refine ⟨⟨_, rfl, ?_⟩, HBR.out.trans hb5⟩
      unfold OwnS
      rw [HN.out, ← strs_snoc]; exact hrow5
theorem allok_take (s : ByteArray) (k : Nat) (hk : k < s.size) : ((s.data.toList.take (k + 1)).all fun b => okc b.toNat) = (((s.data.toList.take k).all fun b => okc b.toNat) && okc (bt s k)) := by
  have hl := size_list s
  rw [List.take_add_one, List.all_append, List.getElem?_eq_getElem (by omega), bt_list s k hk]; simp
theorem allok_false (s : ByteArray) (k : Nat) (hk : k < s.size) (h : okc (bt s k) = false) : allok s = false := by
  have hl := size_list s
  rw [bt_list s k hk] at h
  unfold allok
  rw [List.all_eq_false]
  exact ⟨s.data.toList[k]'(by omega), by simp, by simpa using h⟩
set_option maxRecDepth 100000 in
set_option maxHeartbeats 4000000 in
theorem rname_any (s : ByteArray) (w : World) (hs : s.size ≤ 1000000000) :
    Calls Tryz.prog 94 #[.string s] w fun e w' => e = .returned (.bool (nameB s)) ∧ w = w' := by
  go_enter Tryz.func94, Tryz.ntmps94
  go_wp2
  go_loop [3] (fun c => ∃ k : Nat, k ≤ s.size ∧ c = .int .i64 k ∧ ((s.data.toList.take k).all fun b => okc b.toNat) = true) (fun c => s.size - (intOf c).toNat)
  case atStart => exact ⟨0, Nat.zero_le _, rfl, by simp⟩
  case round =>
    obtain ⟨k, hk, rfl, hall⟩ := hrel
    have HA := Lib.hid hall
    clear hall
    by_cases hlt : k < s.size
    · have hb : ((s[k]'hlt).toNat : Int) = bt s k := by simp [bt, hlt]
      have hr := bt_range s k
      have HI := Lib.hid (okc_iff (bt s k))
      have HT := Lib.hid (allok_take s k hlt)
      have HF := Lib.hid (allok_false s k hlt)
      have HB := Lib.hid hb
      rw [← hb] at hr HI HT HF
      clear hb
      go_wp2
      all_goals first
        | (refine ⟨⟨k + 1, by omega, by simp, ?_⟩, by simp [intOf]; omega⟩
           rw [HT.out, HA.out, HI.out.2 (by (try simp only [Bool.not_eq_true', Bool.not_eq_false', Bool.not_eq_eq_eq_not, Bool.not_true, Bool.not_false, decide_eq_true_eq, decide_eq_false_iff_not, beq_iff_eq, beq_eq_false_iff_ne, ne_eq] at *); omega)]; rfl)
        | (go_ret
           exact ⟨ret_b (by unfold nameB; rw [HF.out (okc_false (by (try simp only [Bool.not_eq_true', Bool.not_eq_false', Bool.not_eq_eq_eq_not, Bool.not_true, Bool.not_false, decide_eq_true_eq, decide_eq_false_iff_not, beq_iff_eq, beq_eq_false_iff_ne, ne_eq] at *); omega))]; rfl), rfl⟩)
    · have hkk : k = s.size := by omega
      have hal : allok s = true := by
        unfold allok
        have := HA.out
        rwa [List.take_of_length_le (by rw [size_list]; omega)] at this
      have HAL := Lib.hid hal
      clear hal
      subst hkk
      go_wp2
      all_goals
        go_ret
        refine ⟨ret_b ?_, rfl⟩
        unfold nameB
        rw [HAL.out]
        have hem : s.toList.isEmpty = decide (s.size = 0) := by
          rw [ByteArray.toList_eq, Bool.eq_iff_iff, List.isEmpty_iff_length_eq_zero, size_list]; simp
        rw [hem]
        go_light
        by_cases h0 : s.size = 0
        · simp_all
        · have h1 : (1 : Int) ≤ s.size := by omega
          first | (exfalso; omega) | simp_all
end Go.Proofs.YtjabhhpmofodlaaGreatDoor
