/- Contracts of package varint: Put, Text. -/
import Derived.Test.YtjabhhpmofodlaaGreatDoorV1
namespace Go.Proofs.YtjabhhpmofodlaaGreatDoor
open Go.RowKit
/-- The bytes of a great number: the highest first. -/
def vbig (n : Int) (k : Nat) : List Int := (List.range k).map fun i => n / 2 ^ (8 * (k - 1 - i)) % 256
def vputL (n : Int) : List Int := if n ≤ 240 then [n] else if n ≤ 2287 then [241 + (n - 240) / 256, (n - 240) % 256] else if n ≤ 67823 then [249, (n - 2288) / 256, (n - 2288) % 256] else (247 + vbehind n) :: vbig n (vbehind n).toNat
def vput (n : Int) : ByteArray := strOfNums (vputL n)
theorem info5 : (Tryz.prog.info? 5).map (fun i => (i.zero, i.size, i.bytes)) = some (some (.int .u8 0), 1, 1) := by kernel_rfl
theorem conv1 (W : World) (a : Int) : (convert 178 9 (.slice (some ⟨W.heap.size, 0, none⟩) 1 1)).run Tryz.prog (W.alloc (.cells #[.int .u8 a] 5)) = .ok (.string (strOfNums [a])) (W.alloc (.cells #[.int .u8 a] 5)) :=
  conv_new Tryz.underlying178 Tryz.underlying5 Tryz.underlying9 W [a] (by simp [maxLen])
theorem conv2 (W : World) (a b : Int) : (convert 178 9 (.slice (some ⟨W.heap.size, 0, none⟩) 2 2)).run Tryz.prog (W.alloc (.cells #[.int .u8 a, .int .u8 b] 5)) = .ok (.string (strOfNums [a, b])) (W.alloc (.cells #[.int .u8 a, .int .u8 b] 5)) :=
  conv_new Tryz.underlying178 Tryz.underlying5 Tryz.underlying9 W [a, b] (by simp [maxLen])
theorem conv3 (W : World) (a b c : Int) : (convert 178 9 (.slice (some ⟨W.heap.size, 0, none⟩) 3 3)).run Tryz.prog (W.alloc (.cells #[.int .u8 a, .int .u8 b, .int .u8 c] 5)) = .ok (.string (strOfNums [a, b, c])) (W.alloc (.cells #[.int .u8 a, .int .u8 b, .int .u8 c] 5)) :=
  conv_new Tryz.underlying178 Tryz.underlying5 Tryz.underlying9 W [a, b, c] (by simp [maxLen])
set_option maxRecDepth 100000 in
set_option maxHeartbeats 1000000 in
theorem put_small (n : Int) (w : World) (h0 : 0 ≤ n) (h1 : n ≤ 67823) :
    Calls Tryz.prog 75 #[.int .u64 n] w fun e w' => e = .returned (.string (vput n)) ∧ Below w.heap.size w w' := by
  have c1 := conv1
  have c2 := conv2
  have c3 := conv3
  go_enter Tryz.func75, Tryz.ntmps75
  go_wp2_with fail
  all_goals (go_ret; refine ⟨ret_s ?_, (Below.refl _ _).alloc (Nat.le_refl _) _⟩; go_tidy; unfold vput; congr 1; unfold vputL; grind)
set_option maxRecDepth 100000 in
set_option maxHeartbeats 1000000 in
theorem put_great (n : Int) (w : World) (h0 : 67823 < n) (h1 : n ≤ 18446744073709551615) :
    Calls Tryz.prog 75 #[.int .u64 n] w fun e w' => e = .returned (.string (vput n)) ∧ Below w.heap.size w w' := by
  have hv := vbehind_le n
  obtain ⟨k, hk⟩ : ∃ k : Nat, vbehind n = k := ⟨(vbehind n).toNat, by omega⟩
  rw [hk] at hv
  go_enter Tryz.func75, Tryz.ntmps75
  go_wp2_with (go_at_call 140; refine (behind_any _ _ (by omega) h1).mono ?_; rintro e w' ⟨rfl, hb⟩)
  have HK := Lib.hid hk
  clear hk
  go_loopw [45, 4] (fun s v wr => ∃ i : Nat, i ≤ k ∧ s = .int .i64 i ∧ wr.ownsRow w.heap.size 5 1 v (bnums ((247 + (k : Int)) :: (vbig n k).take i)).length (bnums ((247 + (k : Int)) :: (vbig n k).take i)) ∧ Below w.heap.size w wr ∧ w.heap.size ≤ wr.heap.size) (fun s _ _ => k - (intOf s).toNat)
  case atStart =>
    have hs := hb.size
    exact ⟨0, Nat.zero_le _, rfl, own_lit w' w.heap.size 5 (bnums [247 + (k : Int)]) hs (by simp [bnums, maxLen]), hb.alloc hb.size _, by simp; omega⟩
  case round =>
    obtain ⟨i, hi, rfl, ho, hbr, hsz⟩ := hrel
    have hl1 : ((247 + (k : Int)) :: (vbig n k).take i).length ≤ 9 := by simp [vbig]; omega
    by_cases hlt : i < k
    · have hsn : (247 + (k : Int)) :: (vbig n k).take i ++ [n / 2 ^ (8 * (k - 1 - i)) % 256] = (247 + (k : Int)) :: (vbig n k).take (i + 1) := by
        rw [List.take_succ_eq_append_getElem (by simp [vbig]; omega)]; simp [vbig]
      have HS := Lib.hid hsn
      clear hsn
      go_wp2_with (at_builtin; go_must (refine app1 (base := w.heap.size) (w0 := w) rfl _ _ 178 5 (.int .u8 0) 1 rfl Tryz.underlying178 info5 rfl (by decide) u4 (bnums ((247 + (k : Int)) :: (vbig n k).take i)) _ rfl rfl rfl ho hbr hsz (by rw [bnums_length]; omega) ?_); intro v1 w1 hown hB1 hs1 hg1 hat1)
      go_roundw
      case rel => exact ⟨i + 1, by omega, by go_num, by rw [← HS.out, ← bnums_snoc]; exact hown, hB1, hs1⟩
      case measure => simp [intOf]; omega
    · have hik : i = k := by omega
      have cv := own_string (P := Tryz.prog) Tryz.underlying178 Tryz.underlying5 Tryz.underlying9 ho
      clear hl1
      go_wp2_with fail
      go_ret
      refine ⟨ret_s ?_, hbr⟩
      rw [List.take_of_length_le (by simp [vbig])]
      have hk := HK.out
      unfold vput vputL
      rw [if_neg (by omega), if_neg (by omega), if_neg (by omega), hk]
      rfl
theorem put_any (n : Int) (w : World) (h0 : 0 ≤ n) (h1 : n ≤ 18446744073709551615) :
    Calls Tryz.prog 75 #[.int .u64 n] w fun e w' => e = .returned (.string (vput n)) ∧ Below w.heap.size w w' := by
  by_cases h : n ≤ 67823
  · exact put_small n w h0 h
  · exact put_great n w (by omega) h1
end Go.Proofs.YtjabhhpmofodlaaGreatDoor
