/- The references' Row, Match, Lets, Right of an event. -/
import Derived.Test.YtjabhhpmofodlaaGreatDoorA3
import Derived.Test.YtjabhhpmofodlaaGreatDoorS3
import Derived.Test.YtjabhhpmofodlaaGreatDoorE1
namespace Go.Proofs.YtjabhhpmofodlaaGreatDoor
open Go.RowKit
set_option linter.unusedVariables false
set_option linter.unusedSimpArgs false
/-! ### plain -/
def plusS : ByteArray := ⟨#[43]⟩
def okl (x y : ByteArray) : Bool := x.toList == [43] || x.toList == y.toList
def zipAll : List ByteArray → List ByteArray → Bool
  | x :: r, y :: t => okl x y && zipAll r t
  | _, _ => true
def isHash (x : ByteArray) : Bool := x.toList == [35]
theorem match_plain (X Y : List ByteArray) (h : ∀ x ∈ X, isHash x = false) : matchL X Y = (decide (X.length = Y.length) && zipAll X Y) := by
  induction X generalizing Y with
  | nil => cases Y <;> simp [matchL, zipAll]
  | cons x r ih =>
    have hx := h x (by simp)
    unfold isHash at hx
    cases Y with
    | nil => unfold matchL; rw [hx]; simp
    | cons y t =>
      unfold matchL
      rw [hx]
      simp only [Bool.false_eq_true, if_false]
      rw [ih t fun z hz => h z (by simp [hz])]
      simp only [zipAll, okl, List.length_cons, Nat.add_right_cancel_iff]
      cases h1 : (x.toList == [43]) <;> cases h2 : (x.toList == y.toList) <;> simp
theorem zip_plus (m : Nat) (Y : List ByteArray) : zipAll (List.replicate m plusS) Y = true := by
  induction m generalizing Y with
  | zero => simp [zipAll]
  | succ m ih =>
    cases Y with
    | nil => simp [zipAll, List.replicate_succ]
    | cons y t =>
      rw [List.replicate_succ, zipAll, ih]
      have : (plusS.toList == [43]) = true := by kernel_rfl
      simp [okl, this]
theorem match_hash (P Y : List ByteArray) (z : ByteArray) (hz : isHash z = true) (h : ∀ x ∈ P, isHash x = false) : matchL (P ++ [z]) Y = (decide (P.length ≤ Y.length) && zipAll (P ++ List.replicate (Y.length - P.length) plusS) Y) := by
  induction P generalizing Y with
  | nil =>
    unfold isHash at hz
    rw [List.nil_append]
    unfold matchL
    rw [hz]
    simp [zip_plus]
  | cons x r ih =>
    have hx := h x (by simp)
    unfold isHash at hx
    rw [List.cons_append]
    cases Y with
    | nil => unfold matchL; rw [hx]; simp
    | cons y t =>
      unfold matchL
      rw [hx]
      simp only [Bool.false_eq_true, if_false]
      rw [ih t fun z hz => h z (by simp [hz])]
      simp only [zipAll, okl, List.length_cons, List.cons_append, Nat.add_le_add_iff_right, Nat.add_sub_add_right]
      cases h1 : (x.toList == [43]) <;> cases h2 : (x.toList == y.toList) <;> simp
theorem name_hash {x : ByteArray} (h : isHash x = true) : nameB x = false := by
  unfold isHash at h
  have e : x.toList = [35] := by simpa using h
  rw [blist] at e
  unfold nameB allok
  rw [e]
  have : (([35] : List UInt8).all fun b => okc b.toNat) = false := by decide
  rw [this]; rfl
theorem filt_hash {X : List ByteArray} (h : filtL X = true) (k : Nat) (hk : k + 1 < X.length) : isHash (X[k]'(by omega)) = false := by
  induction X generalizing k with
  | nil => simp at hk
  | cons x r ih =>
    unfold filtL at h
    simp only [Bool.and_eq_true] at h
    cases k with
    | zero =>
      have hr : r.isEmpty = false := by cases r with | nil => simp at hk | cons a b => rfl
      rw [hr] at h
      cases hh : isHash x with
      | false => exact hh
      | true =>
        have h1 := h.1
        unfold lvlB at h1
        rw [name_hash hh] at h1
        unfold isHash at hh
        have e : x.toList = [35] := by simpa using hh
        rw [e] at h1
        simp at h1
    | succ k => exact ih h.2 k (by simpa using hk)
/-- The reference's row: the levels of the topics that have n. -/
def rowL (X : List ByteArray) (n : Nat) : List ByteArray × Bool :=
  if isHash (X.getLastD ⟨#[]⟩) = true then (X.take (X.length - 1) ++ List.replicate (n - (X.length - 1)) plusS, decide (X.length - 1 ≤ n)) else (X, decide (X.length = n))
theorem row_match {X Y : List ByteArray} (h : filtL X = true) (h0 : 0 < X.length) : matchL X Y = ((rowL X Y.length).2 && zipAll (rowL X Y.length).1 Y) := by
  have hl : X.getLastD ⟨#[]⟩ = X[X.length - 1] := by rw [List.getLastD_eq_getLast?, List.getLast?_eq_getElem?, List.getElem?_eq_getElem (by omega)]; rfl
  have hsp : X = X.take (X.length - 1) ++ [X[X.length - 1]] := by
    conv => lhs; rw [← List.take_append_drop (X.length - 1) X]
    congr 1
    rw [List.drop_eq_getElem_cons (by omega), List.drop_of_length_le (by omega)]
  have hP : ∀ x ∈ X.take (X.length - 1), isHash x = false := by
    intro x hx
    obtain ⟨k, hk, rfl⟩ := List.getElem_of_mem hx
    rw [List.getElem_take]
    simp at hk
    exact filt_hash h k (by omega)
  unfold rowL
  rw [hl]
  split
  · rename_i hh
    have := match_hash _ Y _ hh hP
    rw [← hsp] at this
    rw [this]
    have e : (X.take (X.length - 1)).length = X.length - 1 := by simp
    rw [e]
  · rename_i hh
    rw [match_plain X Y ?_]
    intro x hx
    rw [hsp, List.mem_append] at hx
    rcases hx with hx | hx
    · exact hP x hx
    · simp only [List.mem_singleton] at hx
      rw [hx]; simpa using hh
theorem row_len {X : List ByteArray} {n : Nat} (h0 : 0 < X.length) (h : (rowL X n).2 = true) : (rowL X n).1.length = n := by
  unfold rowL at *
  split at h
  · rename_i hh
    rw [if_pos hh]
    simp at h ⊢
    omega
  · rename_i hh
    rw [if_neg hh]
    simpa using h
theorem zip_step {F T : List ByteArray} {k : Nat} (h1 : k < F.length) (h2 : k < T.length) : zipAll (F.drop k) (T.drop k) = (okl F[k] T[k] && zipAll (F.drop (k + 1)) (T.drop (k + 1))) := by
  rw [List.drop_eq_getElem_cons h1, List.drop_eq_getElem_cons h2, zipAll]
theorem rin_any (n a b : Int) (w : World) : Calls Tryz.prog 91 #[.int .i64 n, .int .i64 a, .int .i64 b] w fun e w' => e = .returned (.bool (inB n a b)) ∧ w = w' := by
  by_cases h : a ≤ n
  · go_enter Tryz.func91, Tryz.ntmps91
    go_wp2
    all_goals (go_ret; exact ⟨ret_b (by unfold inB; simp [h]), rfl⟩)
  · have e : inB n a b = false := by unfold inB; simp [h]
    have h' : n < a := by omega
    rw [e]
    go_enter Tryz.func91, Tryz.ntmps91
    go_wp2
    all_goals (go_ret; exact ⟨rfl, rfl⟩)
/-- What Row hands back. -/
def RowPost (w : World) (X : List ByteArray) (n : Nat) (e : Ending) (w' : World) : Prop := (∃ v, e = .returned (.tuple #[v, .bool (rowL X n).2]) ∧ OwnS w' w.heap.size v (rowL X n).1) ∧ Below w.heap.size w w'
def sl : Value → Nat
  | .slice _ n _ => n
  | _ => 0
theorem own_form {w : World} {base n : Nat} {e : TypeId} {v : Value} {xs : List Value} (h : w.ownsRow base e 1 v n xs) : ∃ p cap, v = .slice p n cap := by
  rcases h.2 with ⟨rfl, h2⟩ | ⟨g, cap, cur, rfl, _⟩
  · exact ⟨none, 0, by rw [h2]⟩
  · exact ⟨_, cap, rfl⟩
theorem rep_snoc (L : List ByteArray) (j : Nat) : (L ++ List.replicate j plusS) ++ [plusS] = L ++ List.replicate (j + 1) plusS := by
  rw [List.append_assoc, List.replicate_succ']
theorem own_len0 {w : World} {base n : Nat} {e : TypeId} {v : Value} {xs : List Value} (h : w.ownsRow base e 1 v n xs) : xs.length = n := by have := h.1; omega
set_option maxRecDepth 100000 in
set_option maxHeartbeats 4000000 in
theorem rrow_any (s : ByteArray) (n : Nat) (w : World) (hs : s.size ≤ 1000000000) (h8 : (levels s).length ≤ 1000) (hn : n ≤ 1000) :
    Calls Tryz.prog 153 #[.string s, .int .i64 n] w (RowPost w (levels s) n) := by
  have HL := Lib.hid (rlevels_any s w hs)
  have h0 := levels_ne s
  generalize levels s = X at *
  have hlast : X.getLastD ⟨#[]⟩ = X[X.length - 1] := by rw [List.getLastD_eq_getLast?, List.getLast?_eq_getElem?, List.getElem?_eq_getElem (by omega)]; rfl
  have e1 : Hid (∀ n, (rowL X n) = if isHash X[X.length - 1] = true then (X.take (X.length - 1) ++ List.replicate (n - (X.length - 1)) plusS, decide (X.length - 1 ≤ n)) else (X, decide (X.length = n))) := Lib.hid (by
    intro n
    unfold rowL
    rw [hlast])
  have HCW : Hid (∀ (w1 : World) (g : Nat) (cs : List Value), cs = strs X → (∀ j (hj : j < cs.length), w1.cell? ⟨g, j, none⟩ = some cs[j]) → w1.cell? ⟨g, X.length - 1, none⟩ = some (.string X[X.length - 1])) := Lib.hid fun w1 g cs hcs hc => by
    subst hcs
    rw [hc (X.length - 1) (by rw [strs_length]; omega)]; simp [strs]
  clear hlast
  generalize X[X.length - 1] = z at *
  cases hh : isHash z
  · have hrow : Hid (rowL X n = (X, decide (X.length = n))) := Lib.hid (by rw [e1.out, hh]; rfl)
    have hq : (z.toList == [35]) = false := hh
    clear hh
    go_enter Tryz.func153, Tryz.ntmps153
    go_wp2_with (go_at_call 93; refine HL.out.mono ?_; rintro e w1 ⟨⟨v, rfl, ho⟩, hb1⟩; have HO := Lib.hid ho; obtain ⟨g, cap, rfl, hgb, hg, hnc, hc⟩ := own_open1 ho (by rw [strs_length]; exact h0); rw [strs_length] at hnc; have hcm := HCW.out w1 g _ rfl hc; rw [strs_length]; clear hc ho)
    go_ret2
    have e : (((X.length : Int) == (n : Int))) = decide (X.length = n) := by rw [Bool.eq_iff_iff, beq_iff_eq, decide_eq_true_eq]; omega
    refine ⟨⟨.slice (some ⟨g, 0, none⟩) X.length cap, ?_, ?_⟩, hb1⟩
    · rw [hrow.out, ← e]; rfl
    · rw [hrow.out]
      have := HO.out
      unfold OwnS at this ⊢
      rw [strs_length] at this ⊢
      exact this
  · have hrow : Hid (rowL X n = (X.take (X.length - 1) ++ List.replicate (n - (X.length - 1)) plusS, decide (X.length - 1 ≤ n))) := Lib.hid (by rw [e1.out, hh]; rfl)
    have hq : (z.toList == [35]) = true := hh
    clear hh
    have hX1 : (0 : Int) ≤ (X.length : Int) - 1 := by omega
    go_enter Tryz.func153, Tryz.ntmps153
    go_wp2_with (first | (go_at_call 93; refine HL.out.mono ?_; rintro e w1 ⟨⟨v, rfl, ho⟩, hb1⟩; obtain ⟨g, cap, rfl, hgb, hg, hnc, hc⟩ := own_open1 ho (by rw [strs_length]; exact h0); rw [strs_length] at hnc; have hcm := HCW.out w1 g _ rfl hc; have HCC : Hid (∀ j (hj : j < X.length), w1.cell? ⟨g, j, none⟩ = some (.string X[j])) := Lib.hid (fun j hj => by rw [hc j (by rw [strs_length]; exact hj)]; simp [strs]); have HB1 := Lib.hid hb1; have hw1 := hb1.size; have hcap : (X.length : Int) - 1 ≤ (cap : Int) := (by omega); rw [strs_length]; clear hc ho hb1) | (at_builtin; go_must (refine appS (w0 := _) (base := w.heap.size) rfl _ _ rfl _ [] rfl ⟨g, 0, none⟩ cap (X.take (X.length - 1)) (by rw [List.length_take, Nat.min_eq_left (Nat.sub_le _ _)]; rfl) (fun j hj => by rw [add_of, Nat.zero_add, List.getElem_take]; rw [List.length_take] at hj; exact ((below_al (Below.refl _ _) _).cell (p := ⟨g, j, none⟩) hg).trans (HCC.out j (by omega))) (own_lit _ w.heap.size 9 [] hw1 (by simp [maxLen])) (Below.refl _ _) (by rw [World.size_alloc]; exact Nat.le_succ_of_le hw1) (by rw [List.length_take]; simp; omega) ?_); intro v5 w5 hrow5 hb5 hsz5; have HR5 := Lib.hid hrow5; have HB5 := Lib.hid ((HB1.out.alloc HB1.out.size _).trans hb5); clear hrow5 hb5))
    go_loopw [8] (fun v wr => ∃ j : Nat, (j = 0 ∨ X.length - 1 + j ≤ n) ∧ sl v = X.length - 1 + j ∧ wr.ownsRow w.heap.size 9 1 v (strs (X.take (X.length - 1) ++ List.replicate j plusS)).length (strs (X.take (X.length - 1) ++ List.replicate j plusS)) ∧ Below w.heap.size w wr) (fun v _ => n - sl v)
    case atStart =>
      refine ⟨0, .inl rfl, ?_, by simpa using HR5.out, HB5.out⟩
      obtain ⟨p, c, rfl⟩ := own_form HR5.out
      simp [sl, strs_length]
    case round =>
      obtain ⟨j, hj, hsl, hrw, hbr⟩ := hrel
      obtain ⟨p8, c8, rfl⟩ := own_form hrw
      have hlen : (strs (X.take (X.length - 1) ++ List.replicate j plusS)).length = X.length - 1 + j := by rw [strs_length]; simp
      have hv : Value.slice p8 (strs (X.take (X.length - 1) ++ List.replicate j plusS)).length c8 = .slice p8 (X.length - 1 + j) c8 := by rw [hlen]
      rw [hv] at hrw ⊢
      have HRW := Lib.hid hrw
      have HBR := Lib.hid hbr
      have hszw := hbr.size
      have HLEN := Lib.hid hlen
      clear hrw hbr hlen hsl hv
      by_cases hlt : X.length - 1 + j < n
      · have hlt2 : ((X.length - 1 + j : Nat) : Int) < (n : Int) := by omega
        go_wp2_with (at_builtin; go_must (refine app1 (w0 := wr) (base := w.heap.size) rfl _ _ 42 9 (.string ⟨#[]⟩) 16 rfl Tryz.underlying42 info9 rfl (by decide) (.slice p8 (X.length - 1 + j) c8) (strs (X.take (X.length - 1) ++ List.replicate j plusS)) (.string plusS) rfl rfl rfl HRW.out (Below.refl _ _) hszw (by rw [HLEN.out]; omega) ?_); intro v6 w6 hrow6 hb6 hsz6 _ _; rw [strs_snoc, rep_snoc] at hrow6; have HR6 := Lib.hid hrow6; have HB6 := Lib.hid (HBR.out.trans hb6); clear hrow6 hb6)
        have hsl6 : sl v6 = X.length - 1 + (j + 1) := by
          obtain ⟨p, c, rfl⟩ := own_form HR6.out
          simp only [sl]
          rw [strs_length]; simp
        refine ⟨⟨j + 1, .inr (by omega), hsl6, HR6.out, HB6.out⟩, by rw [hsl6]; simp only [sl]; omega⟩
      · have hlt2 : ¬ ((X.length - 1 + j : Nat) : Int) < (n : Int) := by omega
        have hjn : j = n - (X.length - 1) := by omega
        have e : ((((X.length - 1 + j : Nat) : Int) == (n : Int))) = decide (X.length - 1 ≤ n) := by rw [Bool.eq_iff_iff, beq_iff_eq, decide_eq_true_eq]; omega
        have HE := Lib.hid e
        have HJN := Lib.hid hjn
        clear e hjn
        go_wp2_with fail
        go_ret2
        refine ⟨⟨.slice p8 (X.length - 1 + j) c8, ?_, ?_⟩, HBR.out⟩
        · rw [hrow.out, ← HE.out]
          go_light
          simp
        · rw [hrow.out, ← HJN.out]
          exact HRW.out
set_option maxRecDepth 100000 in
set_option maxHeartbeats 4000000 in
theorem rlets_any (v : Value) (F : List ByteArray) (s : ByteArray) (w : World) (hv : RAt w w.heap.size v (strs F)) (hl : F.length ≤ 1000) (hF : ∀ x ∈ F, x.size ≤ 1000000) (hs : s.size ≤ 1000000000)
    (hM : ∀ x w, x.size ≤ 1000000 → Calls Tryz.prog 90 #[.string x, .string s] w fun e w' => e = .returned (.bool (matchB x s)) ∧ Below w.heap.size w w') :
    Calls Tryz.prog 27 #[v, .string s] w fun e w' => e = .returned (.bool (letsB F s)) ∧ Below w.heap.size w w' := by
  have hel : (strs F).length = F.length := strs_length F
  obtain ⟨p, cap, rfl, hc⟩ := hv
  rw [hel]
  have HC : Hid (∀ j (hj : j < F.length), ∃ g, p = some ⟨g, 0, none⟩ ∧ g < w.heap.size ∧ w.cell? ⟨g, j, none⟩ = some (.string F[j])) := Lib.hid fun j hj => by
    obtain ⟨g, h1, h2, h3⟩ := hc j (by omega)
    exact ⟨g, h1, h2, by rw [h3]; simp [strs]⟩
  have HM := Lib.hid hM
  have HF := Lib.hid hF
  have HD : Hid (∀ k (hk : k < F.length), letsB (F.drop k) s = (matchB F[k] s || letsB (F.drop (k + 1)) s)) := Lib.hid fun k hk => by unfold letsB; rw [List.drop_eq_getElem_cons hk, List.any_cons]
  clear hc hM hF hel
  go_enter Tryz.func27, Tryz.ntmps27
  go_wp2
  go_loopw [5] (fun c wr => ∃ k : Nat, k ≤ F.length ∧ c = .int .i64 k ∧ letsB F s = letsB (F.drop k) s ∧ Below w.heap.size w wr) (fun c _ => F.length - (intOf c).toNat)
  case atStart => exact ⟨0, Nat.zero_le _, rfl, rfl, Below.refl _ _⟩
  case round =>
    obtain ⟨k, hk, rfl, hf, hbr⟩ := hrel
    have HFF := Lib.hid hf
    clear hf
    by_cases hlt : k < F.length
    · obtain ⟨g, rfl, hg, hcell⟩ := HC.out k hlt
      have hck := (hbr.cell (p := ⟨g, k, none⟩) hg).trans hcell
      have hsz := HF.out F[k] (by simp)
      have HDK := Lib.hid (HD.out k hlt)
      clear hcell
      generalize F[k] = x at *
      cases hm : matchB x s
      · go_wp2_with (go_at_call 90; refine (HM.out x _ hsz).mono ?_; rw [hm]; rintro e w9 ⟨rfl, hb9⟩)
        exact ⟨⟨k + 1, by omega, by simp, by rw [HFF.out, HDK.out, hm]; rfl, hbr.trans (hb9.mono hbr.size)⟩, by simp [intOf]; omega⟩
      · go_wp2_with (go_at_call 90; refine (HM.out x _ hsz).mono ?_; rw [hm]; rintro e w9 ⟨rfl, hb9⟩)
        go_ret
        exact ⟨ret_b (by rw [HFF.out, HDK.out, hm]; rfl), hbr.trans (hb9.mono hbr.size)⟩
    · have hkk : k = F.length := by omega
      subst hkk
      go_wp2
      go_ret
      exact ⟨ret_b (by rw [HFF.out, List.drop_length]; rfl), hbr⟩
theorem filterB_filt {f : ByteArray} (h : filterB f = true) : filtL (levels f) = true ∧ (levels f).length ≤ 8 := by
  unfold filterB at h
  simp only [Bool.and_eq_true, decide_eq_true_eq] at h
  exact ⟨h.2, h.1⟩
theorem rightB_len {t : ByteArray} (h : rightB t = true) : (levels t).length ≤ 8 := by
  unfold rightB at h
  simp only [Bool.and_eq_true, decide_eq_true_eq] at h
  exact h.1
theorem row_le (X : List ByteArray) (n : Nat) : (rowL X n).1.length ≤ X.length + n := by
  unfold rowL
  split
  · simp; omega
  · simp
set_option maxRecDepth 100000 in
set_option maxHeartbeats 4000000 in
theorem rmatch_any (f t : ByteArray) (w : World) (hf : f.size ≤ 1000000000) (ht : t.size ≤ 1000000000) :
    Calls Tryz.prog 90 #[.string f, .string t] w fun e w' => e = .returned (.bool (matchB f t)) ∧ Below w.heap.size w w' := by
  cases hF : filterB f
  · have hm : matchB f t = false := by unfold matchB; rw [hF]; rfl
    rw [hm]
    go_enter Tryz.func90, Tryz.ntmps90
    go_wp2_with (go_at_call 29; refine (rfilter_any f _ hf).mono ?_; rw [hF]; rintro e w1 ⟨rfl, hb1⟩)
    go_ret
    exact ⟨rfl, hb1⟩
  · cases hT : rightB t
    · have hm : matchB f t = false := by unfold matchB; rw [hF, hT]; rfl
      rw [hm]
      go_enter Tryz.func90, Tryz.ntmps90
      go_wp2_with (first | (go_at_call 29; refine (rfilter_any f _ hf).mono ?_; rw [hF]; rintro e w1 ⟨rfl, hb1⟩) | (go_at_call 92; refine (rright_any t _ ht).mono ?_; rw [hT]; rintro e w2 ⟨rfl, hb2⟩))
      go_ret
      exact ⟨rfl, below_go hb1 hb2⟩
    · obtain ⟨hfl, h8⟩ := filterB_filt hF
      have h8t := rightB_len hT
      have hm : matchB f t = ((rowL (levels f) (levels t).length).2 && zipAll (rowL (levels f) (levels t).length).1 (levels t)) := by
        unfold matchB; rw [hF, hT, row_match hfl (levels_ne f)]; rfl
      rw [hm]
      have hrl := @row_len (levels f) (levels t).length (levels_ne f)
      have hrle := row_le (levels f) (levels t).length
      have HL := Lib.hid (fun w => rlevels_any t w ht)
      have HR := Lib.hid (fun w => rrow_any f (levels t).length w hf (by omega) (by omega))
      unfold RowPost at HR
      generalize levels t = Y at *
      generalize rowL (levels f) Y.length = RR at *
      obtain ⟨Fr, b0⟩ := RR
      simp only at hrl hrle HR ⊢
      have HRL := Lib.hid hrl
      have hfr : Fr.length ≤ 16 := by omega
      clear hm hrl hrle hfl
      obtain ⟨M, hM⟩ : ∃ M, (b0 && zipAll Fr Y) = M := ⟨_, rfl⟩
      rw [hM]
      have HM := Lib.hid hM
      clear hM
      go_enter Tryz.func90, Tryz.ntmps90
      go_wp2_with (first | (go_at_call 29; refine (rfilter_any f _ hf).mono ?_; rw [hF]; rintro e w1 ⟨rfl, hb1⟩) | (go_at_call 92; refine (rright_any t _ ht).mono ?_; rw [hT]; rintro e w2 ⟨rfl, hb2⟩) | (go_at_call 93; refine (HL.out _).mono ?_; rintro e w3 ⟨⟨v3, rfl, ho3⟩, hb3⟩; obtain ⟨p3, cap3, hv3, hc3⟩ := OwnS.rat ho3; rw [strs_length] at hv3; subst hv3) | (go_at_call 153; refine (HR.out _).mono ?_; rintro e w4 ⟨⟨v4, rfl, ho4⟩, hb4⟩; obtain ⟨p4, cap4, hv4, hc4⟩ := OwnS.rat ho4; rw [strs_length] at hv4; subst hv4))
      have HC3 : Hid (∀ j (hj : j < Y.length), ∃ g, p3 = some ⟨g, 0, none⟩ ∧ g < w4.heap.size ∧ w4.cell? ⟨g, j, none⟩ = some (.string Y[j])) := Lib.hid fun j hj => by
        obtain ⟨g, h1, h2, h3⟩ := hc3 j (by rw [strs_length]; exact hj)
        exact ⟨g, h1, Nat.lt_of_lt_of_le h2 hb4.size, by rw [hb4.cell (p := ⟨g, j, none⟩) h2, h3]; simp [strs]⟩
      have HC4 : Hid (∀ j (hj : j < Fr.length), ∃ g, p4 = some ⟨g, 0, none⟩ ∧ g < w4.heap.size ∧ w4.cell? ⟨g, j, none⟩ = some (.string Fr[j])) := Lib.hid fun j hj => by
        obtain ⟨g, h1, h2, h3⟩ := hc4 j (by rw [strs_length]; exact hj)
        exact ⟨g, h1, h2, by rw [h3]; simp [strs]⟩
      have HB4 := Lib.hid (below_go (below_go (below_go hb1 hb2) hb3) hb4)
      have hw4 := HB4.out.size
      clear hc3 hc4 hb1 hb2 hb3 hb4 ho3 ho4 HL HR
      go_loopw [7, 8] (fun b c wr => ∃ (k : Nat) (b1 : Bool), k ≤ Y.length ∧ c = .int .i64 k ∧ b = .bool b1 ∧ (b1 = true → Fr.length = Y.length) ∧ M = (b1 && zipAll (Fr.drop k) (Y.drop k)) ∧ Below w4.heap.size w4 wr) (fun _ c _ => Y.length - (intOf c).toNat)
      case atStart => exact ⟨0, b0, Nat.zero_le _, rfl, rfl, HRL.out, HM.out.symm, Below.refl _ _⟩
      case round =>
        obtain ⟨k, b1, hk, rfl, rfl, hlen, hf, hbr⟩ := hrel
        have HF := Lib.hid hf
        have HLEN := Lib.hid hlen
        have HBR := Lib.hid hbr
        clear hf hlen hbr
        by_cases hlt : k < Y.length
        · cases b1
          · go_wp2_with fail
            go_ret
            exact ⟨ret_b (by rw [HF.out]; rfl), HB4.out.trans (HBR.out.mono hw4)⟩
          · have hll := HLEN.out rfl
            have hlt2 : k < Fr.length := by omega
            obtain ⟨g, rfl, hg, hcell⟩ := HC3.out k hlt
            obtain ⟨g2, rfl, hg2, hcell2⟩ := HC4.out k hlt2
            have q1 := (HBR.out.cell (p := ⟨g, k, none⟩) hg).trans hcell
            have q2 := (HBR.out.cell (p := ⟨g2, k, none⟩) hg2).trans hcell2
            have HZ := Lib.hid (zip_step hlt2 hlt)
            have HLL := Lib.hid hll
            have h0k : (0 : Int) ≤ (k : Int) := by omega
            have hki : (k : Int) < (Y.length : Int) := by omega
            have hki2 : (k : Int) < (Fr.length : Int) := by omega
            clear hcell hcell2 hll
            generalize Y[k] = y at *
            generalize Fr[k] = x at *
            cases hp : (x.toList == [43])
            · go_wp2_with fail
              go_quiet (fail)
              go_wp2
              refine ⟨⟨k + 1, _, by omega, by simp, rfl, fun _ => HLL.out, ?_, below_drewN HBR.out _⟩, by simp [intOf]; omega⟩
              rw [HF.out, HZ.out]
              unfold okl
              rw [hp]; simp
            · go_wp2_with fail
              go_quiet (fail)
              go_wp2
              refine ⟨⟨k + 1, true, by omega, by simp, rfl, fun _ => HLL.out, ?_, below_drewN HBR.out _⟩, by simp [intOf]; omega⟩
              rw [HF.out, HZ.out]
              unfold okl
              rw [hp]; simp
        · have hkk : k = Y.length := by omega
          subst hkk
          have he : zipAll (Fr.drop Y.length) (Y.drop Y.length) = true := by rw [List.drop_length]; cases Fr.drop Y.length <;> rfl
          have HE := Lib.hid he
          clear he
          go_wp2_with fail
          go_ret
          exact ⟨ret_b (by rw [HF.out, HE.out]; simp), HB4.out.trans (HBR.out.mono hw4)⟩
set_option maxRecDepth 100000 in
set_option maxHeartbeats 4000000 in
theorem rev_any (e : Ev) (w : World) (ht : e.t.size ≤ 1000000000) (hl : e.l.size ≤ 9223372036854775807) :
    Calls Tryz.prog 28 #[evV e] w fun r w' => r = .returned (.bool (evRight e)) ∧ Below w.heap.size w w' := by
  obtain ⟨o, s, t, l, k⟩ := e
  unfold evV
  simp only at ht hl ⊢
  obtain ⟨W, hW⟩ : ∃ W, w.alloc (.cells #[.int .i64 o, .int .i64 s, .string t, .string l, .int .i64 k] 37) = W := ⟨_, rfl⟩
  have hWb : Below w.heap.size w W := by rw [← hW]; exact below_al (Below.refl _ _) _
  have heW : W.heap[w.heap.size]? = some (.cells #[.int .i64 o, .int .i64 s, .string t, .string l, .int .i64 k] 37) := by rw [← hW]; exact World.alloc_heap_new w _
  have b0 : W.cell? ⟨w.heap.size, 0, none⟩ = some (.int .i64 o) := cell_arr heW 0
  have b1 : W.cell? ⟨w.heap.size, 1, none⟩ = some (.int .i64 s) := cell_arr heW 1
  have b2 : W.cell? ⟨w.heap.size, 2, none⟩ = some (.string t) := cell_arr heW 2
  have b3 : W.cell? ⟨w.heap.size, 3, none⟩ = some (.string l) := cell_arr heW 3
  have b4 : W.cell? ⟨w.heap.size, 4, none⟩ = some (.int .i64 k) := cell_arr heW 4
  have HWB := Lib.hid hWb
  have hE : Hid (∀ a1 a2 a3 a4 a5 : Bool, inB o 0 maxNum = a1 → inB s 1 maxNum = a2 → rightB t = a3 → decide ((l.size : Int) ≤ 64) = a4 → inB k 0 1000 = a5 → evRight ⟨o, s, t, l, k⟩ = (a1 && a2 && a5 && a3 && a4)) := Lib.hid (by
    rintro a1 a2 a3 a4 a5 rfl rfl rfl rfl rfl
    unfold evRight
    simp only
    congr 1
    rw [Bool.eq_iff_iff]; simp; omega)
  have m1 : True := trivial
  have m2 : True := trivial
  generalize hh1 : inB o 0 maxNum = a1 at *
  generalize hh2 : inB s 1 maxNum = a2 at *
  generalize hh3 : rightB t = a3 at *
  generalize hh5 : inB k 0 1000 = a5 at *
  have E := Lib.hid (hE.out a1 a2 a3 (decide ((l.size : Int) ≤ 64)) a5 rfl rfl rfl rfl rfl)
  rw [E.out]
  have H1 := Lib.hid hh1
  have H2 := Lib.hid hh2
  have H3 := Lib.hid hh3
  have H5 := Lib.hid hh5
  clear hh1 hh2 hh3 hh5 hE E heW hWb
  cases a1
  case false => (go_enter Tryz.func28, Tryz.ntmps28; go_wp2_with (first | (go_at_call 91; go_must (first | (clear m1; refine (rin_any o 0 maxNum _).mono ?_; rw [H1.out]; rintro e w1 ⟨rfl, rfl⟩) | (clear m2; refine (rin_any s 1 maxNum _).mono ?_; rw [H2.out]; rintro e w1 ⟨rfl, rfl⟩) | (refine (rin_any k 0 1000 _).mono ?_; rw [H5.out]; rintro e w1 ⟨rfl, rfl⟩))) | (go_at_call 92; refine (rright_any t _ ht).mono ?_; rw [H3.out]; rintro e w2 ⟨rfl, hb2⟩; have q4 := below_cell hb2 b4; have q3 := below_cell hb2 b3)); go_ret; exact ⟨ret_b (by simp_all), HWB.out⟩)
  case true =>
    cases a2
    case false => (go_enter Tryz.func28, Tryz.ntmps28; go_wp2_with (first | (go_at_call 91; go_must (first | (clear m1; refine (rin_any o 0 maxNum _).mono ?_; rw [H1.out]; rintro e w1 ⟨rfl, rfl⟩) | (clear m2; refine (rin_any s 1 maxNum _).mono ?_; rw [H2.out]; rintro e w1 ⟨rfl, rfl⟩) | (refine (rin_any k 0 1000 _).mono ?_; rw [H5.out]; rintro e w1 ⟨rfl, rfl⟩))) | (go_at_call 92; refine (rright_any t _ ht).mono ?_; rw [H3.out]; rintro e w2 ⟨rfl, hb2⟩; have q4 := below_cell hb2 b4; have q3 := below_cell hb2 b3)); go_ret; exact ⟨ret_b (by simp_all), HWB.out⟩)
    case true =>
      cases a3
      case false => (go_enter Tryz.func28, Tryz.ntmps28; go_wp2_with (first | (go_at_call 91; go_must (first | (clear m1; refine (rin_any o 0 maxNum _).mono ?_; rw [H1.out]; rintro e w1 ⟨rfl, rfl⟩) | (clear m2; refine (rin_any s 1 maxNum _).mono ?_; rw [H2.out]; rintro e w1 ⟨rfl, rfl⟩) | (refine (rin_any k 0 1000 _).mono ?_; rw [H5.out]; rintro e w1 ⟨rfl, rfl⟩))) | (go_at_call 92; refine (rright_any t _ ht).mono ?_; rw [H3.out]; rintro e w2 ⟨rfl, hb2⟩; have q4 := below_cell hb2 b4; have q3 := below_cell hb2 b3)); go_ret; exact ⟨ret_b (by simp_all), HWB.out.trans (hb2.mono HWB.out.size)⟩)
      case true =>
        by_cases h4 : (l.size : Int) ≤ 64
        · have h4' : decide ((l.size : Int) ≤ 64) = true := by simpa using h4
          cases a5
          case false => (go_enter Tryz.func28, Tryz.ntmps28; go_wp2_with (first | (go_at_call 91; go_must (first | (clear m1; refine (rin_any o 0 maxNum _).mono ?_; rw [H1.out]; rintro e w1 ⟨rfl, rfl⟩) | (clear m2; refine (rin_any s 1 maxNum _).mono ?_; rw [H2.out]; rintro e w1 ⟨rfl, rfl⟩) | (refine (rin_any k 0 1000 _).mono ?_; rw [H5.out]; rintro e w1 ⟨rfl, rfl⟩))) | (go_at_call 92; refine (rright_any t _ ht).mono ?_; rw [H3.out]; rintro e w2 ⟨rfl, hb2⟩; have q4 := below_cell hb2 b4; have q3 := below_cell hb2 b3)); go_ret; exact ⟨ret_b (by simp_all), HWB.out.trans (hb2.mono HWB.out.size)⟩)
          case true => (go_enter Tryz.func28, Tryz.ntmps28; go_wp2_with (first | (go_at_call 91; go_must (first | (clear m1; refine (rin_any o 0 maxNum _).mono ?_; rw [H1.out]; rintro e w1 ⟨rfl, rfl⟩) | (clear m2; refine (rin_any s 1 maxNum _).mono ?_; rw [H2.out]; rintro e w1 ⟨rfl, rfl⟩) | (refine (rin_any k 0 1000 _).mono ?_; rw [H5.out]; rintro e w1 ⟨rfl, rfl⟩))) | (go_at_call 92; refine (rright_any t _ ht).mono ?_; rw [H3.out]; rintro e w2 ⟨rfl, hb2⟩; have q4 := below_cell hb2 b4; have q3 := below_cell hb2 b3)); go_ret; exact ⟨ret_b (by simp_all), HWB.out.trans (hb2.mono HWB.out.size)⟩)
        · have h4' : decide ((l.size : Int) ≤ 64) = false := by simpa using h4
          (go_enter Tryz.func28, Tryz.ntmps28; go_wp2_with (first | (go_at_call 91; go_must (first | (clear m1; refine (rin_any o 0 maxNum _).mono ?_; rw [H1.out]; rintro e w1 ⟨rfl, rfl⟩) | (clear m2; refine (rin_any s 1 maxNum _).mono ?_; rw [H2.out]; rintro e w1 ⟨rfl, rfl⟩) | (refine (rin_any k 0 1000 _).mono ?_; rw [H5.out]; rintro e w1 ⟨rfl, rfl⟩))) | (go_at_call 92; refine (rright_any t _ ht).mono ?_; rw [H3.out]; rintro e w2 ⟨rfl, hb2⟩; have q4 := below_cell hb2 b4; have q3 := below_cell hb2 b3)); go_ret; exact ⟨ret_b (by simp_all), HWB.out.trans (hb2.mono HWB.out.size)⟩)
end Go.Proofs.YtjabhhpmofodlaaGreatDoor
