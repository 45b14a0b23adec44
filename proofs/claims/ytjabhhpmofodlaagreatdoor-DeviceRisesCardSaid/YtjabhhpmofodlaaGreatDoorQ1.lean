/- What is saved loads as what it was: plain. -/
import Derived.Test.YtjabhhpmofodlaaGreatDoorH1
namespace Go.Proofs.YtjabhhpmofodlaaGreatDoor
set_option linter.unusedVariables false
set_option linter.unusedSimpArgs false
def bys (s : ByteArray) : List UInt8 := s.data.toList
/-- From the place a on, s is l. -/
def Rest (s : ByteArray) (a : Int) (l : List UInt8) : Prop := ∃ p, bys s = p ++ l ∧ a = p.length
theorem bys_size (s : ByteArray) : (bys s).length = s.size := by show s.data.toList.length = s.data.size; simp
theorem bys_app (s t : ByteArray) : bys (s ++ t) = bys s ++ bys t := by simp [bys]
theorem Rest.size {s : ByteArray} {a : Int} {l : List UInt8} (h : Rest s a l) : 0 ≤ a ∧ (s.size : Int) = a + l.length := by
  obtain ⟨p, e, rfl⟩ := h
  refine ⟨by omega, ?_⟩
  rw [← bys_size, e]; simp
theorem Rest.skip {s : ByteArray} {a : Int} {l r : List UInt8} (h : Rest s a (l ++ r)) : Rest s (a + l.length) r := by
  obtain ⟨p, e, rfl⟩ := h
  exact ⟨p ++ l, by rw [e]; simp, by simp⟩
theorem Rest.byte {s : ByteArray} {a : Int} {l : List UInt8} (h : Rest s a l) (i : Nat) (hi : i < l.length) : bt s (a + i) = (l[i]).toNat := by
  have hs := h.size
  obtain ⟨p, e, rfl⟩ := h
  unfold bt
  have hk : ((p.length : Int) + i).toNat = p.length + i := by omega
  have hlt : p.length + i < s.size := by omega
  rw [hk, dif_pos hlt]
  have : s[p.length + i]'hlt = (bys s)[p.length + i]'(by rw [bys_size]; exact hlt) := rfl
  rw [this]
  congr 2
  simp [e]
theorem Rest.cut {s : ByteArray} {a : Int} {l r : List UInt8} (h : Rest s a (l ++ r)) : bys (s.extract a.toNat (a + l.length).toNat) = l := by
  obtain ⟨p, e, rfl⟩ := h
  unfold bys at *
  rw [ByteArray.data_extract, Array.toList_extract, List.extract_eq_take_drop, e]
  rw [show ((p.length : Int)).toNat = p.length by omega, show ((p.length : Int) + l.length).toNat - p.length = l.length by omega]
  simp
theorem bys_inj {s t : ByteArray} (h : bys s = bys t) : s = t := by
  cases s; cases t
  unfold bys at h
  simp at h
  rw [h]
theorem bys_vput (n : Int) : bys (vput n) = (vputL n).map fun x => UInt8.ofNat x.toNat := rfl
theorem vbig_byte (n : Int) (k : Nat) : ∀ x ∈ vbig n k, 0 ≤ x ∧ x ≤ 255 := by
  intro x hx
  obtain ⟨i, _, rfl⟩ := List.mem_map.1 hx
  omega
theorem vputL_byte {n : Int} (h0 : 0 ≤ n) : ∀ x ∈ vputL n, 0 ≤ x ∧ x ≤ 255 := by
  have hv := vbehind_le n
  have hb := vbig_byte n (vbehind n).toNat
  unfold vputL
  intro x hx
  split at hx
  · simp at hx; omega
  · split at hx
    · simp at hx; omega
    · split at hx
      · simp at hx; omega
      · rcases List.mem_cons.1 hx with rfl | hx
        · omega
        · exact hb x hx
theorem byte_back {x : Int} (h0 : 0 ≤ x) (h1 : x ≤ 255) : ((UInt8.ofNat x.toNat).toNat : Int) = x := by
  rw [UInt8.toNat_ofNat']; omega
theorem Rest.put_bt {s : ByteArray} {a n : Int} {r : List UInt8} (h0 : 0 ≤ n) (h : Rest s a (bys (vput n) ++ r)) (i : Nat) (hi : i < (vputL n).length) : bt s (a + i) = (vputL n).getD i 0 := by
  have hl : (bys (vput n)).length = (vputL n).length := by rw [bys_vput]; simp
  rw [h.byte i (by simp [hl]; omega)]
  have e : (bys (vput n) ++ r)[i]'(by simp [hl]; omega) = UInt8.ofNat ((vputL n)[i]).toNat := by
    rw [List.getElem_append_left (by omega)]
    simp [bys_vput]
  rw [e]
  have hb := vputL_byte h0 (vputL n)[i] (by simp)
  rw [byte_back hb.1 hb.2]
  simp [List.getD_eq_getElem?_getD, hi]
theorem vbehind_lt {n : Int} (h0 : 67823 < n) (h1 : n ≤ 18446744073709551615) : n < 2 ^ (8 * (vbehind n).toNat) := by
  unfold vbehind
  repeat' split
  all_goals (simp only [Int.reduceToNat, Nat.reduceMul, Int.reducePow]; omega)
theorem pow_step (k m : Nat) (h : m < k) : (2 : Int) ^ (8 * (k - m)) = 2 ^ (8 * (k - 1 - m)) * 256 := by
  rw [show 8 * (k - m) = 8 * (k - 1 - m) + 8 by omega, Int.pow_add]; rfl
theorem vraw_big {s : ByteArray} {a n : Int} {k : Nat} (hn : 0 ≤ n) (hlt : n < 2 ^ (8 * k)) (hb : ∀ i, i < k → bt s (a + 1 + i) = n / 2 ^ (8 * (k - 1 - i)) % 256) (m : Nat) (hm : m ≤ k) : vraw s a m = n / 2 ^ (8 * (k - m)) := by
  induction m with
  | zero => rw [Nat.sub_zero, Int.ediv_eq_zero_of_lt hn hlt]; rfl
  | succ m ih =>
    have h1 := ih (by omega)
    unfold vraw
    rw [h1, hb m (by omega), pow_step k m (by omega), show k - (m + 1) = k - 1 - m by omega]
    have hp : (0 : Int) < 2 ^ (8 * (k - 1 - m)) := Int.pow_pos (by decide)
    rw [← Int.ediv_ediv_of_nonneg (Int.le_of_lt hp)]
    omega
theorem vget_put {s : ByteArray} {a n : Int} {r : List UInt8} (h0 : 0 ≤ n) (h1 : n ≤ 18446744073709551615) (h : Rest s a (bys (vput n) ++ r)) : vget s a = (n, a + (vput n).size, 0) ∧ Rest s (a + (vput n).size) r := by
  have hlen : (vput n).size = (vputL n).length := by unfold vput; rw [strOfNums_size]
  have hsk := h.skip
  have hbl : (bys (vput n)).length = (vput n).size := bys_size _
  rw [hbl] at hsk
  refine ⟨?_, hsk⟩
  have hsz := h.size
  simp only [List.length_append, hbl] at hsz
  have hb := fun i hi => h.put_bt h0 i hi
  have hv := vbehind_le n
  have hW : vwant (bt s a) = (vputL n).length ∧ vval s a = n ∧ vsize n = (vputL n).length := by
    by_cases c1 : n ≤ 240
    · have e : vputL n = [n] := by unfold vputL; rw [if_pos c1]
      rw [e] at hb ⊢
      have b0 := hb 0 (by simp)
      simp at b0
      rw [vwant_A (by omega), vval_A (by omega)]
      exact ⟨rfl, b0, by unfold vsize; rw [if_pos c1]; rfl⟩
    · by_cases c2 : n ≤ 2287
      · have e : vputL n = [241 + (n - 240) / 256, (n - 240) % 256] := by unfold vputL; rw [if_neg c1, if_pos c2]
        rw [e] at hb ⊢
        have b0 := hb 0 (by simp)
        have b1 := hb 1 (by simp)
        simp at b0 b1
        rw [vwant_B (by omega) (by omega), vval_B (by omega) (by omega) 1 rfl]
        refine ⟨rfl, ?_, by unfold vsize; rw [if_neg c1, if_pos c2]; rfl⟩
        simp only [vraw]
        rw [show a + 1 + ((0 : Nat) : Int) = a + 1 by omega, b1]
        omega
      · by_cases c3 : n ≤ 67823
        · have e : vputL n = [249, (n - 2288) / 256, (n - 2288) % 256] := by unfold vputL; rw [if_neg c1, if_neg c2, if_pos c3]
          rw [e] at hb ⊢
          have b0 := hb 0 (by simp)
          have b1 := hb 1 (by simp)
          have b2 := hb 2 (by simp)
          simp at b0 b1 b2
          rw [vwant_C (by omega), vval_C (by omega) 2 rfl]
          refine ⟨rfl, ?_, by unfold vsize; rw [if_neg c1, if_neg c2, if_pos c3]; rfl⟩
          simp only [vraw]
          rw [show a + 1 + ((0 : Nat) : Int) = a + 1 by omega, show a + 1 + ((1 : Nat) : Int) = a + 2 by omega, b1, b2]
          omega
        · obtain ⟨k, hk⟩ : ∃ k : Nat, vbehind n = k := ⟨(vbehind n).toNat, by omega⟩
          have e : vputL n = (247 + (k : Int)) :: vbig n k := by unfold vputL; rw [if_neg c1, if_neg c2, if_neg c3, hk]; simp
          have hlt := vbehind_lt (by omega) h1
          rw [hk] at hlt hv
          simp only [Int.toNat_natCast] at hlt
          have hvl : (vbig n k).length = k := by simp [vbig]
          rw [e] at hb ⊢
          have b0 := hb 0 (by simp)
          simp at b0
          have hbi : ∀ i, i < k → bt s (a + 1 + i) = n / 2 ^ (8 * (k - 1 - i)) % 256 := by
            intro i hi
            have := hb (i + 1) (by simp [hvl]; omega)
            rw [show a + 1 + (i : Int) = a + ((i + 1 : Nat) : Int) by omega, this]
            simp [vbig, List.getD_eq_getElem?_getD, hi]
          have hr := vraw_big h0 hlt hbi k (Nat.le_refl _)
          rw [vwant_D (by omega), vval_D (by omega) k (by omega), hr]
          refine ⟨by rw [b0]; simp [hvl]; omega, by simp, ?_⟩
          unfold vsize
          rw [if_neg c1, if_neg c2, if_neg c3, hk]; simp [hvl]; omega
  obtain ⟨w1, w2, w3⟩ := hW
  have hp : 1 ≤ (vputL n).length := by have := vsize_pos n; omega
  unfold vget
  rw [if_neg (by omega), if_neg (by omega), w1, w2, if_neg (by simp [w3]), hlen]
theorem vcut_text {s : ByteArray} {a : Int} {f : ByteArray} {r : List UInt8} (hf : f.size ≤ 65536) (h : Rest s a (bys (vtext f) ++ r)) : vcut s a = (f, a + (vtext f).size, 0) ∧ Rest s (a + (vtext f).size) r := by
  have hsk := h.skip
  rw [bys_size] at hsk
  refine ⟨?_, hsk⟩
  unfold vtext at h ⊢
  rw [bys_app, List.append_assoc] at h
  obtain ⟨g1, g2⟩ := vget_put (by omega) (by omega) h
  have hsz := g2.size
  simp only [List.length_append, bys_size] at hsz
  have hc := g2.cut
  rw [bys_size] at hc
  unfold vcut
  rw [g1]
  simp only [ne_eq, not_true_eq_false, if_false]
  rw [if_neg (by omega), if_neg (by omega)]
  rw [bys_inj hc, ByteArray.size_append]
  simp; omega
theorem unlv_length (L : List (List UInt8)) (h : ∀ x ∈ L, x.length ≤ 16) : (unlv L).length ≤ L.length * 17 := by
  induction L with
  | nil => simp [unlv]
  | cons a r ih =>
    have ha := h a (by simp)
    have hr := ih fun x hx => h x (by simp [hx])
    cases r with
    | nil => simp [unlv]; omega
    | cons b u =>
      simp only [unlv, List.length_append, List.length_cons] at *
      omega
theorem lvlB_size {x : ByteArray} {b : Bool} (h : lvlB x b = true) : x.size ≤ 16 := by
  unfold lvlB nameB at h
  simp only [Bool.or_eq_true, Bool.and_eq_true, decide_eq_true_eq, beq_iff_eq] at h
  rcases h with (h | h) | h
  · omega
  · rw [ByteArray.toList_eq] at h
    have := congrArg List.length h
    simp at this
    have e : x.size = x.data.size := rfl
    omega
  · have h := h.1
    rw [ByteArray.toList_eq] at h
    have := congrArg List.length h
    simp at this
    have e : x.size = x.data.size := rfl
    omega
theorem filtL_size {L : List ByteArray} (h : filtL L = true) : ∀ x ∈ L, x.size ≤ 16 := by
  induction L with
  | nil => simp
  | cons y r ih =>
    unfold filtL at h
    simp only [Bool.and_eq_true] at h
    intro x hx
    rcases List.mem_cons.1 hx with rfl | hx
    · exact lvlB_size h.1
    · exact ih h.2 x hx
theorem filterB_size {f : ByteArray} (h : filterB f = true) : f.size ≤ 136 := by
  unfold filterB at h
  simp only [Bool.and_eq_true, decide_eq_true_eq] at h
  obtain ⟨h1, h2⟩ := h
  have h3 := filtL_size h2
  have h4 := unlv_length (lv f.data.toList) (by
    intro x hx
    have := h3 (str x) (by unfold levels; exact List.mem_map.2 ⟨x, hx, rfl⟩)
    have e : (str x).size = x.length := by show (str x).data.size = _; simp [str]
    omega)
  rw [unlv_lv] at h4
  have h5 : (levels f).length = (lv f.data.toList).length := by simp [levels]
  have h6 : f.data.toList.length = f.size := by show _ = f.data.size; simp
  omega
theorem rnum_put {s : ByteArray} {a n : Int} {r : List UInt8} (h0 : 0 ≤ n) (h1 : n ≤ maxNum) (h : Rest s a (bys (vput n) ++ r)) : rnum s a 0 = (n, a + (vput n).size, 0) ∧ Rest s (a + (vput n).size) r := by
  unfold maxNum at h1
  obtain ⟨g1, g2⟩ := vget_put h0 (by omega) h
  refine ⟨?_, g2⟩
  unfold rnum
  rw [g1]
  simp only [ne_eq, not_true_eq_false, if_false]
  rw [Int.min_eq_left (by omega)]
def mB (m : Mk) : List UInt8 := bys (vput m.1) ++ bys (vput m.2)
theorem bys_vmks_go (ms : List Mk) (acc : ByteArray) : bys (ms.foldl (fun s m => s ++ vmk m) acc) = bys acc ++ ms.flatMap mB := by
  induction ms generalizing acc with
  | nil => simp
  | cons m r ih => rw [List.foldl_cons, ih, bys_app]; simp [vmk, mB, bys_app]
theorem bys_vmks (ms : List Mk) : bys (vmks ms) = bys (vput ms.length) ++ ms.flatMap mB := bys_vmks_go ms _
theorem rmarks_put {s : ByteArray} {r : List UInt8} (M : List Mk) (hM : ∀ m ∈ M, 0 ≤ m.1 ∧ m.1 ≤ maxNum ∧ 1 ≤ m.2 ∧ m.2 ≤ maxNum) {a : Int} (h : Rest s a (M.flatMap mB ++ r)) : ∃ a', rmarks s M.length a 0 = (M, a', 0) ∧ Rest s a' r := by
  induction M generalizing a with
  | nil => exact ⟨a, rfl, by simpa using h⟩
  | cons m t ih =>
    obtain ⟨m1, m2, m3, m4⟩ := hM m (by simp)
    rw [List.flatMap_cons, mB, List.append_assoc, List.append_assoc] at h
    obtain ⟨g1, g2⟩ := rnum_put m1 m2 h
    obtain ⟨g3, g4⟩ := rnum_put (by omega) m4 g2
    obtain ⟨a', g5, g6⟩ := ih (fun x hx => hM x (by simp [hx])) g4
    refine ⟨a', ?_, g6⟩
    rw [List.length_cons, rmarks]
    simp only [g1, g3, g5]
theorem sortL_of {last : Int} {M : List Mk} (h : M.Pairwise fun a b => a.1 < b.1) (hl : ∀ m ∈ M, last < m.1) (hM : ∀ m ∈ M, 0 ≤ m.1 ∧ m.1 ≤ maxNum ∧ 1 ≤ m.2 ∧ m.2 ≤ maxNum) : sortL last M = true := by
  induction M generalizing last with
  | nil => rfl
  | cons m t ih =>
    rw [List.pairwise_cons] at h
    have h1 := hM m (by simp)
    have h2 := hl m (by simp)
    unfold sortL
    rw [if_neg]
    · exact ih h.2 h.1 fun x hx => hM x (by simp [hx])
    · have hi : inB m.2 1 maxNum = true := by simp [inB, h1]
      rw [hi]
      simp only [Bool.true_eq_false, or_false, not_or]
      omega
theorem XInv.sortB {x : D1} (h : XInv x) : Proofs.YtjabhhpmofodlaaGreatDoor.sortB x.2.2 = true := by
  unfold Proofs.YtjabhhpmofodlaaGreatDoor.sortB
  rw [sortL_of h.ms (fun m hm => by have := (h.mr m hm).1; omega) h.mr]
  simp [h.ml]
theorem ecut_put {s : ByteArray} {a : Int} {r : List UInt8} {x : D1} (hX : XInv x) (h : Rest s a (bys (marksS x.2.2) ++ r)) : ∃ a', ecut s a = (x.2.2, a', 0) ∧ Rest s a' r := by
  have hs := hX.sortB
  unfold marksS at h
  rw [if_pos hs, bys_vmks, List.append_assoc] at h
  have hl := hX.ml
  obtain ⟨g1, g2⟩ := rnum_put (by omega) (by unfold maxNum; omega) h
  obtain ⟨a', g3, g4⟩ := rmarks_put _ hX.mr g2
  refine ⟨a', ?_, g4⟩
  unfold ecut
  simp only [g1, Int.toNat_natCast, g3]
  rw [if_neg (by omega)]
  simp [hs]
theorem dSetF_last {A : List D1} {id : Int} {F F' : List ByteArray} {M : List Mk} (h : ∀ y ∈ A, y.1 < id) : dSetF (A ++ [(id, F, M)]) id F' = A ++ [(id, F', M)] := by
  unfold dSetF
  rw [List.map_append]
  have e1 : A.map (fun x => if x.1 == id then (x.1, F', x.2.2) else x) = A := by
    conv => rhs; rw [← List.map_id A]
    apply List.map_congr_left
    intro y hy
    have := h y hy
    have e : (y.1 == id) = false := by simp; omega
    simp [e]
  rw [e1]; simp
theorem dSetM_last {A : List D1} {id : Int} {F : List ByteArray} {M M' : List Mk} (h : ∀ y ∈ A, y.1 < id) : dSetM (A ++ [(id, F, M)]) id M' = A ++ [(id, F, M')] := by
  unfold dSetM
  rw [List.map_append]
  have e1 : A.map (fun x => if x.1 == id then (x.1, x.2.1, M') else x) = A := by
    conv => rhs; rw [← List.map_id A]
    apply List.map_congr_left
    intro y hy
    have := h y hy
    have e : (y.1 == id) = false := by simp; omega
    simp [e]
  rw [e1]; simp
theorem dFind_none {A : List D1} {id : Int} (h : ∀ y ∈ A, y.1 < id) : A.find? (fun x => x.1 == id) = none := by
  rw [List.find?_eq_none]
  intro y hy
  have := h y hy
  simp; omega
theorem dFind_last {A : List D1} {id : Int} {F : List ByteArray} {M : List Mk} (h : ∀ y ∈ A, y.1 < id) : (A ++ [(id, F, M)]).find? (fun x => x.1 == id) = some (id, F, M) := by
  rw [List.find?_append, dFind_none h]; simp
theorem dIns_last {A : List D1} {id : Int} {F : List ByteArray} {M : List Mk} (h : ∀ y ∈ A, y.1 < id) : dIns (id, F, M) A = A ++ [(id, F, M)] := by
  induction A with
  | nil => rfl
  | cons y r ih =>
    have := h y (by simp)
    unfold dIns
    rw [if_neg (by simp only; omega), ih fun z hz => h z (by simp [hz])]; rfl
theorem insF_last {F : List ByteArray} {f : ByteArray} (h : ∀ x ∈ F, fCmp x f < 0) : insF f F = F ++ [f] := by
  induction F with
  | nil => rfl
  | cons y r ih =>
    unfold insF
    rw [if_pos (h y (by simp)), ih fun z hz => h z (by simp [hz])]; rfl
theorem dFils_put {s : ByteArray} {r : List UInt8} {A : List D1} {id : Int} (hA : ∀ y ∈ A, y.1 < id) (Fr F0 : List ByteArray) (hF : FSorted (F0 ++ Fr)) (hl : (F0 ++ Fr).length ≤ 8) (hf : ∀ f ∈ Fr, filterB f = true) {a : Int} (h : Rest s a (Fr.flatMap (fun f => bys (vtext f)) ++ r)) :
    ∃ a', dFils s id Fr.length (A ++ [(id, F0, [])]) a = some (A ++ [(id, F0 ++ Fr, [])], a') ∧ Rest s a' r := by
  induction Fr generalizing F0 a with
  | nil => exact ⟨a, by simp [dFils], by simpa using h⟩
  | cons f t ih =>
    rw [List.flatMap_cons, List.append_assoc] at h
    have hff := hf f (by simp)
    obtain ⟨g1, g2⟩ := vcut_text (by have := filterB_size hff; omega) h
    have hlt : ∀ x ∈ F0, fCmp x f < 0 := by
      intro x hx
      unfold FSorted at hF
      rw [List.pairwise_append] at hF
      exact hF.2.2 x hx f (by simp)
    have hask : dAsk (A ++ [(id, F0, [])]) id f true = (0, A ++ [(id, F0 ++ [f], [])]) := by
      unfold dAsk
      rw [dFind_last hA]
      simp only
      have hh : hasB f F0 = false := by
        rw [hasB_not]
        intro hm
        have := hlt f hm
        rw [fCmp_zero.2 rfl] at this; omega
      rw [if_neg (by simp [hff]), if_pos trivial, if_neg (by simp [hh]), if_neg (by simp at hl; omega), insF_last hlt, dSetF_last hA]
    obtain ⟨a', g3, g4⟩ := ih (F0 ++ [f]) (by simpa using hF) (by simpa using hl) (fun x hx => hf x (by simp [hx])) g2
    refine ⟨a', ?_, g4⟩
    rw [List.length_cons, dFils, g1]
    simp only [hask, ne_eq, not_true_eq_false, if_false]
    rw [g3]; simp
def dB (x : D1) : List UInt8 := bys (vput x.1) ++ (bys (vput x.2.1.length) ++ (x.2.1.flatMap (fun f => bys (vtext f)) ++ bys (marksS x.2.2)))
theorem bys_dFs (F : List ByteArray) (acc : ByteArray) : bys (dFs acc F) = bys acc ++ F.flatMap fun f => bys (vtext f) := by
  unfold dFs
  induction F generalizing acc with
  | nil => simp
  | cons f r ih => rw [List.foldl_cons, ih, bys_app]; simp
theorem bys_dOne (acc : ByteArray) (x : D1) : bys (dOne acc x) = bys acc ++ dB x := by
  unfold dOne dB
  rw [bys_app, bys_dFs, bys_app, bys_app]; simp
theorem bys_dSave_go (D : List D1) (acc : ByteArray) : bys (D.foldl dOne acc) = bys acc ++ D.flatMap dB := by
  induction D generalizing acc with
  | nil => simp
  | cons x r ih => rw [List.foldl_cons, ih, bys_dOne]; simp
theorem bys_dSave (D : List D1) : bys (dSave D) = bys (vput D.length) ++ D.flatMap dB := bys_dSave_go D _
theorem numR_put {s : ByteArray} {a n top : Int} {r : List UInt8} (h0 : 0 ≤ n) (h1 : n ≤ top) (ht : top ≤ maxNum) (h : Rest s a (bys (vput n) ++ r)) : ∃ a', numR s a top = some (n, a') ∧ Rest s a' r := by
  unfold maxNum at ht
  obtain ⟨g1, g2⟩ := vget_put h0 (by omega) h
  refine ⟨_, ?_, g2⟩
  unfold numR
  rw [g1]; simp [h1]
theorem dRead_put {s : ByteArray} {r : List UInt8} {A : List D1} {x : D1} (hX : XInv x) (hA : ∀ y ∈ A, y.1 < x.1) (hl : A.length < 16) {a : Int} (h : Rest s a (dB x ++ r)) : ∃ a', dRead A s a = some (A ++ [x], x.1, a') ∧ Rest s a' r := by
  obtain ⟨id, F, M⟩ := x
  unfold dB at h
  simp only [List.append_assoc] at h
  have hid := hX.id
  simp only at hid hA
  obtain ⟨a1, g1, r1⟩ := numR_put hid.1 hid.2 (Int.le_refl _) h
  have hj : dJoin A id = (0, A ++ [(id, [], [])]) := by
    unfold dJoin
    rw [if_neg (by omega), dFind_none hA, if_neg (by simp), if_neg (by omega), dIns_last hA]
  have hfl : F.length ≤ 8 := hX.fl
  obtain ⟨a2, g2, r2⟩ := numR_put (top := 8) (by omega) (by omega) (by unfold maxNum; omega) r1
  obtain ⟨a3, g3, r3⟩ := dFils_put (A := A) hA F [] hX.fo (by simpa using hfl) hX.ff r2
  obtain ⟨a4, g4, r4⟩ := ecut_put hX r3
  refine ⟨a4, ?_, r4⟩
  unfold dRead
  rw [g1]
  simp only [hj, ne_eq, not_true_eq_false, if_false, g2, Int.toNat_natCast, g3, g4]
  rw [dSetM_last hA]; simp
theorem dReads_put {s : ByteArray} {r : List UInt8} (B : List D1) (A : List D1) (hI : DInv (A ++ B)) {a : Int} (h : Rest s a (B.flatMap dB ++ r)) : ∃ a', dReads s B.length A a = some (A ++ B, a') ∧ Rest s a' r := by
  induction B generalizing A a with
  | nil => exact ⟨a, by simp [dReads], by simpa using h⟩
  | cons x t ih =>
    rw [List.flatMap_cons, List.append_assoc] at h
    have hs := hI.sorted
    rw [List.pairwise_append] at hs
    have hlen := hI.len
    simp at hlen
    obtain ⟨a1, g1, r1⟩ := dRead_put (hI.xs x (by simp)) (fun y hy => hs.2.2 y hy x (by simp)) (by omega) h
    obtain ⟨a2, g2, r2⟩ := ih (A ++ [x]) (by simpa using hI) r1
    refine ⟨a2, ?_, r2⟩
    rw [List.length_cons, dReads, g1]
    simp only
    rw [g2]; simp
theorem dLoad_save {D : List D1} (h : DInv D) : dLoad (dSave D) = some D := by
  have hR : Rest (dSave D) 0 (bys (vput D.length) ++ (D.flatMap dB ++ [])) := ⟨[], by rw [bys_dSave]; simp, rfl⟩
  have hl := h.len
  obtain ⟨a1, g1, r1⟩ := numR_put (top := 16) (by omega) (by omega) (by unfold maxNum; omega) hR
  obtain ⟨a2, g2, _⟩ := dReads_put D [] (by simpa using h) r1
  unfold dLoad
  rw [g1]
  simp only [Int.toNat_natCast, g2]
  simp
end Go.Proofs.YtjabhhpmofodlaaGreatDoor
