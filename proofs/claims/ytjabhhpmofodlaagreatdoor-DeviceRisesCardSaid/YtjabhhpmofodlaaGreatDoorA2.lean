/- The references' Right, Filter, Less. -/
import Derived.Test.YtjabhhpmofodlaaGreatDoorA1
import Derived.Deep.RegionHeld3
namespace Go.Proofs.YtjabhhpmofodlaaGreatDoor
open Go.RowKit
set_option linter.unusedVariables false
set_option linter.unusedSimpArgs false
theorem rname_below (s : ByteArray) (w : World) (hs : s.size ≤ 1000000000) : Calls Tryz.prog 94 #[.string s] w fun e w' => e = .returned (.bool (nameB s)) ∧ w = w' := rname_any s w hs
theorem levels_sizes (s : ByteArray) : ∀ x ∈ levels s, x.size ≤ s.size := by
  intro x hx
  unfold levels at hx
  obtain ⟨l, hl, rfl⟩ := List.mem_map.1 hx
  have key : ∀ (p : List UInt8), ∀ y ∈ lv p, y.length ≤ p.length := by
    intro p
    induction p with
    | nil => simp [lv]
    | cons c r ih =>
      intro y hy
      unfold lv at hy
      split at hy
      · rcases List.mem_cons.1 hy with rfl | hy
        · simp
        · have := ih y hy; simp; omega
      · have hne := lv_ne r
        cases hr : lv r with
        | nil => exact absurd hr hne
        | cons a t =>
          rw [hr] at hy ih
          simp only [List.headD_cons, List.tail_cons] at hy
          rcases List.mem_cons.1 hy with rfl | hy
          · have := ih a (by simp); simp; omega
          · have := ih y (by simp [hy]); simp; omega
  have := key _ l hl
  rw [size_list] at this
  have e : (str l).size = l.length := by show (str l).data.size = _; simp [str]
  omega
theorem rightB_alt (s : ByteArray) : rightB s = ((levels s).all nameB && decide (((levels s).length : Int) ≤ 8)) := by
  unfold rightB
  rw [Bool.and_comm]
  congr 1
  rw [Bool.eq_iff_iff]; simp; omega
theorem filterB_alt (s : ByteArray) : filterB s = (filtL (levels s) && decide (((levels s).length : Int) ≤ 8)) := by
  unfold filterB
  rw [Bool.and_comm]
  congr 1
  rw [Bool.eq_iff_iff]; simp; omega
theorem drop_all {α : Type} (l : List α) (f : α → Bool) (k : Nat) (hk : k < l.length) : (l.drop k).all f = (f l[k] && (l.drop (k + 1)).all f) := by
  rw [List.drop_eq_getElem_cons hk, List.all_cons]
set_option maxRecDepth 100000 in
set_option maxHeartbeats 4000000 in
theorem rright_any (s : ByteArray) (w : World) (hs : s.size ≤ 1000000000) :
    Calls Tryz.prog 92 #[.string s] w fun e w' => e = .returned (.bool (rightB s)) ∧ Below w.heap.size w w' := by
  have HL := Lib.hid (rlevels_any s w hs)
  have HS := Lib.hid (levels_sizes s)
  have HE := Lib.hid (rightB_alt s)
  have h0 := levels_ne s
  have hll := levels_length s
  generalize levels s = L at *
  go_enter Tryz.func92, Tryz.ntmps92
  go_wp2_with (go_at_call 93; refine HL.out.mono ?_; rintro e w1 ⟨⟨v, rfl, ho⟩, hb1⟩; obtain ⟨g, cap, rfl, hg, hc⟩ := (OwnS.rat ho).open_s h0; have HC := Lib.hid hc; clear hc ho)
  go_loopw [4] (fun c wr => ∃ k : Nat, k ≤ L.length ∧ c = .int .i64 k ∧ L.all nameB = (L.drop k).all nameB ∧ wr = w1) (fun c _ => L.length - (intOf c).toNat)
  case atStart => exact ⟨0, Nat.zero_le _, rfl, rfl, rfl⟩
  case round =>
    obtain ⟨k, hk, rfl, hf, rfl⟩ := hrel
    have HF := Lib.hid hf
    clear hf
    by_cases hlt : k < L.length
    · have hck := HC.out k hlt
      have hsz := HS.out L[k] (by simp)
      have HD := Lib.hid (drop_all L nameB k hlt)
      generalize L[k] = x at *
      cases hn : nameB x
      · go_wp2_with (go_at_call 94; refine (rname_any x _ (by omega)).mono ?_; rw [hn]; rintro e w' ⟨rfl, rfl⟩)
        go_ret
        exact ⟨ret_b (by rw [HE.out, HF.out, HD.out, hn]; rfl), hb1⟩
      · go_wp2_with (go_at_call 94; refine (rname_any x _ (by omega)).mono ?_; rw [hn]; rintro e w' ⟨rfl, rfl⟩)
        exact ⟨⟨k + 1, by omega, by simp, by rw [HF.out, HD.out, hn]; rfl, trivial⟩, by simp [intOf]; omega⟩
    · have hkk : k = L.length := by omega
      subst hkk
      go_wp2
      go_ret
      exact ⟨ret_b (by rw [HE.out, HF.out]; simp), hb1⟩
theorem filt_drop (L : List ByteArray) (k : Nat) (hk : k < L.length) : filtL (L.drop k) = (lvlB L[k] (decide (k + 1 = L.length)) && filtL (L.drop (k + 1))) := by
  rw [List.drop_eq_getElem_cons hk, filtL]
  congr 2
  rw [Bool.eq_iff_iff, List.isEmpty_iff]
  simp; omega
set_option maxRecDepth 100000 in
set_option maxHeartbeats 4000000 in
theorem rfilter_any (s : ByteArray) (w : World) (hs : s.size ≤ 1000000000) :
    Calls Tryz.prog 29 #[.string s] w fun e w' => e = .returned (.bool (filterB s)) ∧ Below w.heap.size w w' := by
  have HL := Lib.hid (rlevels_any s w hs)
  have HS := Lib.hid (levels_sizes s)
  have HE := Lib.hid (filterB_alt s)
  have h0 := levels_ne s
  have hll := levels_length s
  generalize levels s = L at *
  go_enter Tryz.func29, Tryz.ntmps29
  go_wp2_with (go_at_call 93; refine HL.out.mono ?_; rintro e w1 ⟨⟨v, rfl, ho⟩, hb1⟩; obtain ⟨g, cap, rfl, hg, hc⟩ := (OwnS.rat ho).open_s h0; have HC := Lib.hid hc; clear hc ho)
  go_loopw [4] (fun c wr => ∃ k : Nat, k ≤ L.length ∧ c = .int .i64 k ∧ filtL L = filtL (L.drop k) ∧ wr = w1) (fun c _ => L.length - (intOf c).toNat)
  case atStart => exact ⟨0, Nat.zero_le _, rfl, rfl, rfl⟩
  case round =>
    obtain ⟨k, hk, rfl, hf, rfl⟩ := hrel
    have HF := Lib.hid hf
    clear hf
    by_cases hlt : k < L.length
    · have hck := HC.out k hlt
      have hsz := HS.out L[k] (by simp)
      have HD := Lib.hid (filt_drop L k hlt)
      generalize L[k] = x at *
      cases hn : nameB x
      · cases h43 : (x.toList == [43])
        · cases h35 : (x.toList == [35])
          · have hlb : lvlB x (decide (k + 1 = L.length)) = false := by simp [lvlB, hn, h43, h35]
            have HLB := Lib.hid hlb
            clear hlb
            go_wp2_with (go_at_call 94; refine (rname_any x _ (by omega)).mono ?_; rw [hn]; rintro e w' ⟨rfl, rfl⟩)
            go_ret
            exact ⟨ret_b (by rw [HE.out, HF.out, HD.out, HLB.out]; rfl), hb1⟩
          · by_cases hla : k + 1 = L.length
            · have hlb : lvlB x (decide (k + 1 = L.length)) = true := by simp [lvlB, hn, h43, h35, hla]
              have HLB := Lib.hid hlb
              have hlt2 : ¬ (k : Int) < (L.length : Int) - 1 := by omega
              clear hlb
              go_wp2_with (go_at_call 94; refine (rname_any x _ (by omega)).mono ?_; rw [hn]; rintro e w' ⟨rfl, rfl⟩)
              exact ⟨⟨k + 1, by omega, by simp, by rw [HF.out, HD.out, HLB.out]; rfl, trivial⟩, by simp [intOf]; omega⟩
            · have hlb : lvlB x (decide (k + 1 = L.length)) = false := by simp [lvlB, hn, h43, h35, hla]
              have HLB := Lib.hid hlb
              have hlt2 : (k : Int) < (L.length : Int) - 1 := by omega
              clear hlb
              go_wp2_with (go_at_call 94; refine (rname_any x _ (by omega)).mono ?_; rw [hn]; rintro e w' ⟨rfl, rfl⟩)
              go_ret
              exact ⟨ret_b (by rw [HE.out, HF.out, HD.out, HLB.out]; rfl), hb1⟩
        · have hlb : lvlB x (decide (k + 1 = L.length)) = true := by simp [lvlB, hn, h43]
          have HLB := Lib.hid hlb
          clear hlb
          go_wp2_with (go_at_call 94; refine (rname_any x _ (by omega)).mono ?_; rw [hn]; rintro e w' ⟨rfl, rfl⟩)
          exact ⟨⟨k + 1, by omega, by simp, by rw [HF.out, HD.out, HLB.out]; rfl, trivial⟩, by simp [intOf]; omega⟩
      · have hlb : lvlB x (decide (k + 1 = L.length)) = true := by simp [lvlB, hn]
        have HLB := Lib.hid hlb
        clear hlb
        go_wp2_with (go_at_call 94; refine (rname_any x _ (by omega)).mono ?_; rw [hn]; rintro e w' ⟨rfl, rfl⟩)
        exact ⟨⟨k + 1, by omega, by simp, by rw [HF.out, HD.out, HLB.out]; rfl, trivial⟩, by simp [intOf]; omega⟩
    · have hkk : k = L.length := by omega
      subst hkk
      go_wp2
      go_ret
      exact ⟨ret_b (by rw [HE.out, HF.out]; simp [filtL]), hb1⟩
/-! ### Less -/
theorem blist (a : ByteArray) : a.toList = a.data.toList := ByteArray.toList_eq a
theorem less_at (a b : ByteArray) (k : Nat) (ha : k < a.size) (hb : k < b.size) (heq : a.data.toList.take k = b.data.toList.take k) (hne : bt a k ≠ bt b k) : sLess a b = decide (bt a k < bt b k) := by
  have h1 := size_list a
  have h2 := size_list b
  unfold sLess
  rw [blist, blist]
  have key : ∀ (p q : List UInt8) (k : Nat) (hp : k < p.length) (hq : k < q.length), p.take k = q.take k → p[k] ≠ q[k] → Op.bytesLess p q = decide (p[k].toNat < q[k].toNat) := by
    intro p
    induction p with
    | nil => intro q k hp; simp at hp
    | cons x r ih =>
      intro q k hp hq ht hn
      cases q with
      | nil => simp at hq
      | cons y t =>
        cases k with
        | zero =>
          simp at hn ⊢
          simp only [Op.bytesLess, UInt8.lt_iff_toNat_lt]
          have : (x == y) = false := by simpa using hn
          simp [this]
        | succ k =>
          simp only [List.take_succ_cons, List.cons.injEq] at ht
          obtain ⟨rfl, ht⟩ := ht
          have := ih t k (by simpa using hp) (by simpa using hq) ht (by simpa using hn)
          simp only [Op.bytesLess, List.getElem_cons_succ]
          rw [this]
          have : ¬ x < x := UInt8.lt_irrefl x
          simp
  rw [bt_list a k ha, bt_list b k hb] at hne ⊢
  rw [key _ _ k (by omega) (by omega) heq (fun e => hne (by rw [e]))]
  rw [Bool.eq_iff_iff]; simp
theorem less_end (a b : ByteArray) (k : Nat) (ha : k ≤ a.size) (hb : k ≤ b.size) (hk : k = a.size ∨ k = b.size) (heq : a.data.toList.take k = b.data.toList.take k) : sLess a b = decide ((a.size : Int) < b.size) := by
  have h1 := size_list a
  have h2 := size_list b
  unfold sLess
  rw [blist, blist]
  have key : ∀ (p q : List UInt8) (k : Nat), k ≤ p.length → k ≤ q.length → (k = p.length ∨ k = q.length) → p.take k = q.take k → Op.bytesLess p q = decide (p.length < q.length) := by
    intro p
    induction p with
    | nil => intro q k _ _ _ _; cases q <;> simp [Op.bytesLess]
    | cons x r ih =>
      intro q k hp hq hk ht
      cases q with
      | nil => simp [Op.bytesLess]
      | cons y t =>
        cases k with
        | zero => simp at hk
        | succ k =>
          simp only [List.take_succ_cons, List.cons.injEq] at ht
          obtain ⟨rfl, ht⟩ := ht
          have := ih t k (by simpa using hp) (by simpa using hq) (by simpa using hk) ht
          simp only [Op.bytesLess, List.length_cons]
          rw [this]
          simp
  rw [key _ _ k (by omega) (by omega) (by omega) heq, h1, h2]
  rw [Bool.eq_iff_iff]; simp
theorem take_same (a b : ByteArray) (k : Nat) (ha : k < a.size) (hb : k < b.size) (heq : a.data.toList.take k = b.data.toList.take k) (h : bt a k = bt b k) : a.data.toList.take (k + 1) = b.data.toList.take (k + 1) := by
  have h1 := size_list a
  have h2 := size_list b
  rw [bt_list a k ha, bt_list b k hb] at h
  rw [List.take_add_one, List.take_add_one, heq, List.getElem?_eq_getElem (by omega), List.getElem?_eq_getElem (by omega)]
  congr 2
  simp only [Option.some.injEq]
  apply UInt8.toNat_inj.1
  omega
set_option maxRecDepth 100000 in
set_option maxHeartbeats 4000000 in
theorem rless1_any (a b : ByteArray) (w : World) (ha : a.size ≤ 1000000000) (hb : b.size ≤ 1000000000) :
    Calls Tryz.prog 154 #[.string a, .string b] w fun e w' => e = .returned (.bool (sLess a b)) ∧ Below w.heap.size w w' := by
  go_enter Tryz.func154, Tryz.ntmps154
  go_wp2
  go_loopw [5] (fun c wr => ∃ k : Nat, k ≤ a.size ∧ k ≤ b.size ∧ c = .int .i64 k ∧ a.data.toList.take k = b.data.toList.take k ∧ Below w.heap.size w wr) (fun c _ => a.size - (intOf c).toNat)
  case atStart => exact ⟨0, Nat.zero_le _, Nat.zero_le _, rfl, rfl, Below.refl _ _⟩
  case round =>
    obtain ⟨k, hk, hk2, rfl, heq, hbr⟩ := hrel
    have HEQ := Lib.hid heq
    clear heq
    by_cases hlt : k < a.size
    · by_cases hlt2 : k < b.size
      · have e1 : ((a[k]'hlt).toNat : Int) = bt a k := by simp [bt, hlt]
        have e2 : ((b[k]'hlt2).toNat : Int) = bt b k := by simp [bt, hlt2]
        have h0k : (0 : Int) ≤ (k : Int) := by omega
        have hka : (k : Int) < (a.size : Int) := by omega
        have hkb : (k : Int) < (b.size : Int) := by omega
        by_cases hq : bt a k = bt b k
        · have HN := Lib.hid (take_same a b k hlt hlt2 HEQ.out hq)
          have hqq : (((a[k]'hlt).toNat : Int) != ((b[k]'hlt2).toNat : Int)) = false := by rw [e1, e2]; simpa using hq
          clear hq e1 e2
          go_wp2_with fail
          go_quiet (fail)
          go_wp2
          exact ⟨⟨k + 1, by omega, by omega, by simp, HN.out, below_drewN hbr _⟩, by simp [intOf]; omega⟩
        · have HN := Lib.hid (less_at a b k hlt hlt2 HEQ.out hq)
          have hqq : (((a[k]'hlt).toNat : Int) != ((b[k]'hlt2).toNat : Int)) = true := by rw [e1, e2]; simpa using hq
          have HE1 := Lib.hid e1
          have HE2 := Lib.hid e2
          clear hq e1 e2
          go_wp2_with fail
          go_quiet (fail)
          go_wp2
          go_quiet (fail)
          go_wp2
          go_ret
          exact ⟨ret_b (by rw [HN.out, ← HE1.out, ← HE2.out]; simp), below_drewN (below_drewN hbr _) _⟩
      · have hkk : k = b.size := by omega
        have HN := Lib.hid (less_end a b k hk hk2 (.inr hkk) HEQ.out)
        subst hkk
        go_wp2
        go_ret
        exact ⟨ret_b (by rw [HN.out]; simp), hbr⟩
    · have hkk : k = a.size := by omega
      have HN := Lib.hid (less_end a b k hk hk2 (.inl hkk) HEQ.out)
      subst hkk
      go_wp2
      go_ret
      exact ⟨ret_b (by rw [HN.out]; simp), hbr⟩
set_option maxRecDepth 100000 in
set_option maxHeartbeats 4000000 in
theorem rless_any (a b : ByteArray) (w : World) (ha : a.size ≤ 1000000000) (hb : b.size ≤ 1000000000) :
    Calls Tryz.prog 95 #[.string a, .string b] w fun e w' => e = .returned (.bool (decide (fCmp a b < 0))) ∧ Below w.heap.size w w' := by
  have HL := Lib.hid (fun w => rlevels_any a w ha)
  have HS := Lib.hid (levels_sizes a)
  have h0 := levels_ne a
  have hll := levels_length a
  have HL2 := Lib.hid (fun w => rlevels_any b w hb)
  have HS2 := Lib.hid (levels_sizes b)
  have h02 := levels_ne b
  have hll2 := levels_length b
  have m1 : True := trivial
  unfold fCmp
  generalize levels a = X at *
  generalize levels b = Y at *
  go_enter Tryz.func95, Tryz.ntmps95
  go_wp2_with (go_at_call 93; go_must (first | (clear m1; refine (HL.out _).mono ?_; rintro e w1 ⟨⟨v, rfl, ho⟩, hb1⟩) | (refine (HL2.out _).mono ?_; rintro e w2 ⟨⟨v2, rfl, ho2⟩, hb2⟩; obtain ⟨g, cap, rfl, hg, hc⟩ := ((OwnS.rat ho).below hb2 |>.mono hb2.size).open_s h0; obtain ⟨g2, cap2, rfl, hg2, hc2⟩ := (OwnS.rat ho2).open_s h02; have HC := Lib.hid hc; have HC2 := Lib.hid hc2; clear hc ho hc2 ho2)))
  have HB := Lib.hid (below_go hb1 hb2)
  have hw2 : w.heap.size ≤ w2.heap.size := Nat.le_trans hb1.size hb2.size
  clear hb1 hb2
  go_loopw [7] (fun c wr => ∃ k : Nat, k ≤ X.length ∧ k ≤ Y.length ∧ c = .int .i64 k ∧ cmpL X Y = cmpL (X.drop k) (Y.drop k) ∧ Below w2.heap.size w2 wr) (fun c _ => X.length - (intOf c).toNat)
  case atStart => exact ⟨0, Nat.zero_le _, Nat.zero_le _, rfl, rfl, Below.refl _ _⟩
  case round =>
    obtain ⟨k, hk, hk2, rfl, hf, hbr⟩ := hrel
    have HF := Lib.hid hf
    clear hf
    by_cases hlt : k < X.length
    · by_cases hlt2 : k < Y.length
      · have hck := (hbr.cell (p := ⟨g, k, none⟩) hg).trans (HC.out k hlt)
        have hck2 := (hbr.cell (p := ⟨g2, k, none⟩) hg2).trans (HC2.out k hlt2)
        have hsz := HS.out X[k] (by simp)
        have hsz2 := HS2.out Y[k] (by simp)
        have HD := Lib.hid (List.drop_eq_getElem_cons hlt)
        have HD2 := Lib.hid (List.drop_eq_getElem_cons hlt2)
        generalize X[k] = x at *
        generalize Y[k] = y at *
        have h0k : (0 : Int) ≤ (k : Int) := by omega
        have hka : (k : Int) < (X.length : Int) := by omega
        have hkb : (k : Int) < (Y.length : Int) := by omega
        by_cases hq : x = y
        · have HN : Hid (cmpL X Y = cmpL (X.drop (k + 1)) (Y.drop (k + 1))) := Lib.hid (by rw [HF.out, HD.out, HD2.out, hq, cmpL, sCmp_zero.2 rfl]; rfl)
          subst hq
          go_wp2_with fail
          go_quiet (fail)
          go_wp2
          exact ⟨⟨k + 1, by omega, by omega, by simp, HN.out, below_drewN hbr _⟩, by simp [intOf]; omega⟩
        · have hne : sCmp x y ≠ 0 := fun e => hq (sCmp_zero.1 e)
          have HN : Hid (decide (cmpL X Y < 0) = sLess x y) := Lib.hid (by
            rw [HF.out, HD.out, HD2.out, cmpL]
            have hb : (sCmp x y != 0) = true := by simpa using hne
            rw [if_pos hb, Bool.eq_iff_iff, decide_eq_true_eq, sCmp_lt])
          have hqq : (!(x.toList == y.toList)) = true := by
            have : x.toList ≠ y.toList := fun e => hq (ba_inj e)
            simpa using this
          clear hq hne
          go_wp2_with fail
          go_quiet (fail)
          go_wp2_with fail
          have hbq := below_drewN hbr nq
          have q1 : ((wr.drewN nq).drew).cell? ⟨g, k, none⟩ = some (.string x) := hck
          have q2 : ((wr.drewN nq).drew).cell? ⟨g2, k, none⟩ = some (.string y) := hck2
          go_region_held3 (fun W => W.cell? ⟨g, k, none⟩ = some (.string x) ∧ W.cell? ⟨g2, k, none⟩ = some (.string y)) (first | exact ⟨q1, q2⟩ | exact ⟨below_cell hb9 q1, below_cell hb9 q2⟩) (first | (go_at_call 154; refine (rless1_any x y _ (by omega) (by omega)).mono ?_; rintro e w9 ⟨rfl, hb9⟩))
          go_wp2_with fail
          go_ret
          exact ⟨ret_b HN.out.symm, HB.out.trans ((hbq.drew.trans (hb9.mono hbq.size)).mono hw2)⟩
      · have hkk : k = Y.length := by omega
        have HD := Lib.hid (List.drop_eq_getElem_cons hlt)
        subst hkk
        go_wp2
        go_ret
        exact ⟨ret_b (by rw [HF.out, HD.out, List.drop_length]; simp [cmpL]; omega), HB.out.trans (hbr.mono hw2)⟩
    · have hkk : k = X.length := by omega
      subst hkk
      by_cases hlt2 : X.length < Y.length
      · have HD2 := Lib.hid (List.drop_eq_getElem_cons hlt2)
        go_wp2
        go_ret
        exact ⟨ret_b (by rw [HF.out, HD2.out, List.drop_length]; simp [cmpL]), HB.out.trans (hbr.mono hw2)⟩
      · have HD2 : Hid (Y.drop X.length = []) := Lib.hid (by simp; omega)
        go_wp2
        go_ret
        exact ⟨ret_b (by rw [HF.out, HD2.out, List.drop_length]; simp [cmpL]), HB.out.trans (hbr.mono hw2)⟩
end Go.Proofs.YtjabhhpmofodlaaGreatDoor
