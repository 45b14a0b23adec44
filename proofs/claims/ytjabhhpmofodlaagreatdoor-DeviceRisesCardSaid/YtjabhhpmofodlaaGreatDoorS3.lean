/- cover.Lets. -/
import Derived.Test.YtjabhhpmofodlaaGreatDoorS2
namespace Go.Proofs.YtjabhhpmofodlaaGreatDoor
open Go.RowKit
set_option linter.unusedVariables false
set_option linter.unusedSimpArgs false
theorem lets1_any (x s : ByteArray) (b : Nat) (w : World) (hx : x.size ≤ 1000000000) (hs : s.size ≤ 1000000000) (hc : w.cell? ⟨b, 0, none⟩ = some (.string s)) :
    Calls Tryz.prog 197 #[.string x, .pointer (some ⟨b, 0, none⟩)] w fun e w' => e = .returned (.bool (matchB x s)) ∧ Below w.heap.size w w' := by
  go_enter Tryz.func197, Tryz.ntmps197
  go_wp2_with (go_at_call 198; refine (match_any _ _ _ hx hs).mono ?_; rintro e w2 ⟨rfl, hb2⟩)
  go_ret
  exact ⟨rfl, hb2⟩
theorem below_cell {w w' : World} {p : Addr} {u : Value} (h : Below w.heap.size w w') (hc : w.cell? p = some u) : w'.cell? p = some u := by
  refine (h.cell ?_).trans hc
  unfold World.cell? at hc
  apply Classical.byContradiction
  intro hn
  rw [Array.getElem?_eq_none (by omega)] at hc
  simp at hc
set_option maxRecDepth 100000 in
set_option maxHeartbeats 2000000 in
theorem index2_any (s : ByteArray) (b : Nat) (v : Value) (xs : List ByteArray) (w : World) (hs : s.size ≤ 1000000000) (hcs : w.cell? ⟨b, 0, none⟩ = some (.string s)) (hv : RAt w w.heap.size v (strs xs)) (hl : xs.length ≤ 1000000000) (hxs : ∀ x ∈ xs, x.size ≤ 1000000000) :
    Calls Tryz.prog 226 #[v, .func (.func 197) #[] #[.pointer (some ⟨b, 0, none⟩)]] w fun e w' => e = .returned (.int .i64 (findI (fun x => matchB x s) xs 0)) ∧ Below w.heap.size w w' := by
  by_cases h0 : 0 < xs.length
  · obtain ⟨g, cap, rfl, hg, hc⟩ := hv.open_s h0
    have HC := Lib.hid hc
    have HXS := Lib.hid hxs
    have HCS := Lib.hid hcs
    clear hc hxs hcs
    go_enter Tryz.func226, Tryz.ntmps226
    go_wp2
    go_loopw [8] (fun c wr => ∃ k : Nat, k ≤ xs.length ∧ c = .int .i64 k ∧ findI (fun x => matchB x s) xs 0 = findI (fun x => matchB x s) (xs.drop k) k ∧ Below w.heap.size w wr) (fun c _ => xs.length - (intOf c).toNat)
    case atStart => exact ⟨0, Nat.zero_le _, rfl, rfl, Below.refl _ _⟩
    case round =>
      obtain ⟨k, hk, rfl, hf, hbr⟩ := hrel
      have HF := Lib.hid hf
      clear hf
      by_cases hlt : k < xs.length
      · have hck : wr.cell? ⟨g, k, none⟩ = some (.string xs[k]) := (hbr.cell (p := ⟨g, k, none⟩) hg).trans (HC.out k hlt)
        have HX := Lib.hid (List.drop_eq_getElem_cons hlt)
        have hxx := HXS.out xs[k] (by simp)
        have hcb := below_cell hbr HCS.out
        generalize hx : xs[k] = x at *
        clear hx
        go_wp2_with (go_at_call 197; refine (lets1_any _ _ _ _ hxx hs hcb).mono ?_; rintro e w2 ⟨rfl, hb2⟩)
        · go_ret
          exact ⟨ret_i (by rw [HF.out, HX.out]; simp_all [findI]), hbr.trans (hb2.mono hbr.size)⟩
        · refine ⟨⟨k + 1, by omega, by simp, ?_, hbr.trans (hb2.mono hbr.size)⟩, by simp [intOf]; omega⟩
          rw [HF.out, HX.out]; simp_all [findI]
      · obtain rfl : k = xs.length := by omega
        go_wp2
        go_ret
        exact ⟨ret_i (by rw [HF.out]; simp [findI]), hbr⟩
  · obtain rfl : xs = [] := List.eq_nil_of_length_eq_zero (by omega)
    obtain ⟨p, cap, rfl⟩ := hv.nil_open rfl
    go_enter Tryz.func226, Tryz.ntmps226
    go_wp2
    refine wp_loop_rounds 1 ?_
    rw [rounds_succ]
    go_wp2
    go_ret
    exact ⟨rfl, Below.refl _ _⟩
theorem contains2_any (s : ByteArray) (b : Nat) (v : Value) (xs : List ByteArray) (w : World) (hs : s.size ≤ 1000000000) (hcs : w.cell? ⟨b, 0, none⟩ = some (.string s)) (hv : RAt w w.heap.size v (strs xs)) (hl : xs.length ≤ 1000000000) (hxs : ∀ x ∈ xs, x.size ≤ 1000000000) :
    Calls Tryz.prog 195 #[v, .func (.func 197) #[] #[.pointer (some ⟨b, 0, none⟩)]] w fun e w' => e = .returned (.bool (xs.any fun x => matchB x s)) ∧ Below w.heap.size w w' := by
  go_enter Tryz.func195, Tryz.ntmps195
  go_wp2_with (go_at_call 226; refine (index2_any s b _ _ _ hs hcs hv hl hxs).mono ?_; rintro e w2 ⟨rfl, hb2⟩)
  go_ret
  exact ⟨ret_b (findI_ge _ _ _), hb2⟩
def letsB (xs : List ByteArray) (s : ByteArray) : Bool := xs.any fun x => matchB x s
theorem lets_any (s : ByteArray) (v : Value) (xs : List ByteArray) (w : World) (hs : s.size ≤ 1000000000) (hv : RAt w w.heap.size v (strs xs)) (hl : xs.length ≤ 1000000000) (hxs : ∀ x ∈ xs, x.size ≤ 1000000000) :
    Calls Tryz.prog 152 #[v, .string s] w fun e w' => e = .returned (.bool (letsB xs s)) ∧ Below w.heap.size w w' := by
  have hv1 : RAt (w.alloc (.cells #[.string s] 9)) (w.alloc (.cells #[.string s] 9)).heap.size v (strs xs) := (hv.below ((Below.refl _ w).alloc (Nat.le_refl _) _)).mono (by simp)
  have hc1 : (w.alloc (.cells #[.string s] 9)).cell? ⟨w.heap.size, 0, none⟩ = some (.string s) := (Boxed.new w 9 (.string s)).cell
  have hmf : ∀ (fn : Fn) (first cap : Array Value) (w : World), (Instr.makeFunc fn first cap).run Tryz.prog w = .ok (.func fn first cap) w := fun _ _ _ _ => rfl
  go_enter Tryz.func152, Tryz.ntmps152
  go_wp2_with (go_at_call 195; refine (contains2_any s w.heap.size _ _ _ hs hc1 hv1 hl hxs).mono ?_; rintro e w2 ⟨rfl, hb2⟩)
  go_ret
  exact ⟨rfl, ((Below.refl _ w).alloc (Nat.le_refl _) _).trans (hb2.mono (by simp))⟩
end Go.Proofs.YtjabhhpmofodlaaGreatDoor
