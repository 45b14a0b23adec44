/- The references' Insert, Without. -/
import Derived.Test.YtjabhhpmofodlaaGreatDoorA2
import Derived.Test.YtjabhhpmofodlaaGreatDoorG2
import Derived.Laws.AppendOwnNone
namespace Go.Proofs.YtjabhhpmofodlaaGreatDoor
open Go.RowKit
set_option linter.unusedVariables false
set_option linter.unusedSimpArgs false
section
variable {ops : Array Oper} {rest : List Oper} {o : Oper} {a : Act} {Q : Exit → Act → World → Prop}
/-- append(v, M...), rows of strings. -/
theorem appS {w0 W : World} {base : Nat} (hgd : o.guard = none) (s x : Operand) (ho : o.op = .call { callee := .builtin .append, args := #[s, x], argTypes := #[42, 42] })
    (v : Value) (L : List ByteArray) (hs : a.eval s = v) (ad : Addr) (c : Nat) (M : List ByteArray) (hx : a.eval x = .slice (some ad) M.length c) (hnews : ∀ j (hj : j < M.length), W.cell? (ad.add j) = some (.string M[j]))
    (HO : W.ownsRow base 9 1 v (strs L).length (strs L)) (HB : Below base w0 W) (hbase : base ≤ W.heap.size) (hl : (L.length + M.length) * 16 ≤ 140737488355328)
    (h : ∀ v1 w1, w1.ownsRow base 9 1 v1 (strs (L ++ M)).length (strs (L ++ M)) → Below base w0 w1 → base ≤ w1.heap.size → wpList Tryz.prog ops Q rest (a.put o.dst v1) w1) :
    wpList Tryz.prog ops Q (o :: rest) a W := by
  obtain ⟨i0, hi, hzz⟩ := Option.map_eq_some_iff.1 info9
  simp only [Prod.mk.injEq] at hzz
  obtain ⟨hz0, hz1, hz2⟩ := hzz
  have e1 := strs_length L
  have e2 := strs_length M
  refine wpList_append_own_at W hgd s x 42 ho base 9 i0 (.string ⟨#[]⟩) 1 16 Tryz.underlying42 hi hz0 hz1 hz2 rfl (by omega) v (strs L).length (strs L) hs HO ad M.length c (strs M) hx (by rw [e2]; omega) ?_ ?_ (by simp only [maxLen]; omega) (by rw [e1]; exact hl) hbase ?_
  · intro j u hu
    obtain ⟨hj, rfl⟩ := List.getElem?_eq_some_iff.1 hu
    rw [hnews j (by omega)]
    simp [strs]
  · intro u hu
    obtain ⟨y, _, rfl⟩ := List.mem_map.1 hu
    rfl
  · intro v1 w1 hown hg _ hat
    have e3 : strs L ++ strs M = strs (L ++ M) := by simp [strs]
    have e4 : (strs L).length + M.length = (strs (L ++ M)).length := by rw [← e3, List.length_append, e2]
    rw [e3, e4] at hown
    exact h v1 w1 hown (HB.grown hg hbase (own_base HO)) (Nat.le_trans hbase hg.size)
theorem appS0 {W : World} {base : Nat} (hgd : o.guard = none) (s x : Operand) (ho : o.op = .call { callee := .builtin .append, args := #[s, x], argTypes := #[42, 42] })
    (v : Value) (n : Nat) (xs : List Value) (hs : a.eval s = v) (HO : W.ownsRow base 9 1 v n xs) (hx : a.eval x = .slice none 0 0) (h : wpList Tryz.prog ops Q rest (a.put o.dst v) W) : wpList Tryz.prog ops Q (o :: rest) a W := by
  obtain ⟨i0, hi, _⟩ := Option.map_eq_some_iff.1 info9
  exact wpList_append_own_none hgd s x 42 ho base 9 i0 1 Tryz.underlying42 hi v n xs hs HO hx h
end
theorem add_of (g o j : Nat) : (⟨g, o, none⟩ : Addr).add j = ⟨g, o + j, none⟩ := by unfold Addr.add; split <;> simp_all
theorem insF_at {F : List ByteArray} {f : ByteArray} {k : Nat} (h : FSorted F) (hk : k ≤ F.length) (h1 : ∀ j (hj : j < F.length), j < k → fCmp F[j] f < 0) (h2 : ∀ hk : k < F.length, 0 ≤ fCmp F[k] f) : (F.take k ++ [f]) ++ F.drop k = insF f F := by
  rw [← insF_eq hk h1 fun j hj hjk => ?_]
  · simp
  · by_cases e : j = k
    · subst e; exact h2 hj
    · have hk' : k < F.length := by omega
      have a1 := h2 hk'
      have a2 := h.get (show k < j by omega) hj
      have hn := fCmp_neg (a := F[k]) (b := f)
      have hn2 := fCmp_neg (a := F[j]) (b := f)
      by_cases hz : fCmp F[k] f = 0
      · have := fCmp_zero.1 hz
        rw [this] at a2
        omega
      · have a3 : fCmp f F[k] < 0 := by omega
        have a4 := fCmp_trans a3 a2
        omega
theorem own_open2 {w : World} {base n : Nat} {e : TypeId} {v : Value} {vs : List Value} (h : w.ownsRow base e 1 v n vs) (h0 : v ≠ .slice none 0 0) : ∃ g cap, v = .slice (some ⟨g, 0, none⟩) n cap ∧ base ≤ g ∧ g < w.heap.size ∧ n ≤ cap ∧ ∀ j (hj : j < vs.length), w.cell? ⟨g, j, none⟩ = some vs[j] := by
  have hl := h.1
  rcases h.2 with ⟨rfl, h2⟩ | ⟨g, cap, cur, rfl, hg, hb, hn, hm, hs, hc⟩
  · exact absurd rfl h0
  · refine ⟨g, cap, rfl, hg, (Array.getElem?_eq_some_iff.1 hb).1, hn, fun j hj => ?_⟩
    have key : ∀ u, vs[j]? = some u → w.cell? ⟨g, j, none⟩ = some u := by
      intro u hu
      rw [← hc, List.getElem?_take_of_lt (by omega)] at hu
      rw [cell_arr hb]; simpa using hu
    exact key _ (List.getElem?_eq_getElem hj)
theorem own_nn {w : World} {base n : Nat} {e : TypeId} {v : Value} {vs : List Value} (h : w.ownsRow base e 1 v n vs) (h0 : 0 < vs.length) : v ≠ .slice none 0 0 := by
  have hl := h.1
  rcases h.2 with ⟨rfl, h2⟩ | ⟨g, cap, cur, rfl, _⟩
  · omega
  · simp
theorem own_open1 {w : World} {base n : Nat} {e : TypeId} {v : Value} {vs : List Value} (h : w.ownsRow base e 1 v n vs) (h0 : 0 < n) : ∃ g cap, v = .slice (some ⟨g, 0, none⟩) n cap ∧ base ≤ g ∧ g < w.heap.size ∧ n ≤ cap ∧ ∀ j (hj : j < vs.length), w.cell? ⟨g, j, none⟩ = some vs[j] := by
  have hl := h.1
  rcases h.2 with ⟨rfl, h2⟩ | ⟨g, cap, cur, rfl, hg, hb, hn, hm, hs, hc⟩
  · omega
  · refine ⟨g, cap, rfl, hg, (Array.getElem?_eq_some_iff.1 hb).1, hn, fun j hj => ?_⟩
    have key : ∀ u, vs[j]? = some u → w.cell? ⟨g, j, none⟩ = some u := by
      intro u hu
      rw [← hc, List.getElem?_take_of_lt (by omega)] at hu
      rw [cell_arr hb]; simpa using hu
    exact key _ (List.getElem?_eq_getElem hj)
set_option maxRecDepth 100000 in
set_option maxHeartbeats 4000000 in
theorem rinsert_any (v1 : Value) (F : List ByteArray) (f : ByteArray) (w : World) (base : Nat) (h1 : OwnS w base v1 F) (hnn : v1 ≠ .slice none 0 0) (hS : FSorted F) (hn : f ∉ F) (hl : F.length ≤ 1000) (hf : f.size ≤ 1000000) (hF : ∀ x ∈ F, x.size ≤ 1000000) :
    Calls Tryz.prog 30 #[v1, .string f] w fun e w' => (∃ v, e = .returned v ∧ OwnS w' w.heap.size v (insF f F) ∧ v ≠ .slice none 0 0) ∧ Below w.heap.size w w' := by
  have hel : (strs F).length = F.length := strs_length F
  have n1 : True := trivial
  have n2 : True := trivial
  have hS1 := Lib.hid hS
  have HFZ := Lib.hid hF
  have HNM := Lib.hid hn
  · obtain ⟨g, cap, rfl, hgb, hg, hnc, hcell⟩ := own_open2 h1 hnn
    clear hnn
    rw [hel] at hnc ⊢
    have HC : Hid (∀ j (hj : j < F.length), w.cell? ⟨g, j, none⟩ = some (.string F[j])) := Lib.hid fun j hj => by rw [hcell j (by omega)]; simp [strs]
    have HCW : Hid (∀ W, Below w.heap.size w W → ∀ j (hj : j < F.length), W.cell? ⟨g, j, none⟩ = some (.string F[j])) := Lib.hid fun W hb j hj => (hb.cell (p := ⟨g, j, none⟩) hg).trans (HC.out j hj)
    clear h1 hS hn hF hcell hel
    go_enter Tryz.func30, Tryz.ntmps30
    go_wp2
    go_loopw [5] (fun c wr => ∃ k : Nat, k ≤ F.length ∧ c = .int .i64 k ∧ (∀ j (hj : j < F.length), j < k → fCmp F[j] f < 0) ∧ Below w.heap.size w wr) (fun c _ => F.length - (intOf c).toNat)
    case atStart => exact ⟨0, Nat.zero_le _, rfl, by omega, Below.refl _ _⟩
    case round =>
      obtain ⟨k, hk, rfl, hm, hbr⟩ := hrel
      have HM := Lib.hid hm
      clear hm
      by_cases hlt : k < F.length
      · have hck := (hbr.cell (p := ⟨g, k, none⟩) hg).trans (HC.out k hlt)
        have hsz := HFZ.out F[k] (by simp)
        have hne : F[k] ≠ f := fun e => HNM.out (by rw [← e]; simp)
        have HI := Lib.hid (insF_at hS1.out hk HM.out)
        have HX : Hid (fCmp F[k] f < 0 → ∀ j (hj : j < F.length), j < k + 1 → fCmp F[j] f < 0) := Lib.hid fun e j hj hjk => by
          by_cases hje : j = k
          · subst hje; exact e
          · exact HM.out j hj (by omega)
        have HG : Hid (0 ≤ fCmp F[k] f → (F.take k ++ [f]) ++ F.drop k = insF f F) := Lib.hid fun e => HI.out fun _ => e
        have h0k : (0 : Int) ≤ (k : Int) := by omega
        have hki : (k : Int) < (F.length : Int) := by omega
        have hkc : (k : Int) ≤ (cap : Int) := by omega
        generalize F[k] = x at *
        have hqq : (x.toList == f.toList) = false := by
          have : x.toList ≠ f.toList := fun e => hne (ba_inj e)
          simpa using this
        clear hne HI
        cases hcmp : decide (fCmp x f < 0)
        · have hge : 0 ≤ fCmp x f := by simpa using hcmp
          have HG2 := Lib.hid (HG.out hge)
          have hkc2 : ¬ k = cap := by omega
          have hkc3 : ¬ (k : Int) = (cap : Int) := by omega
          clear hge
          go_wp2_with (first | (go_at_call 95; refine (rless_any x f _ (by omega) (by omega)).mono ?_; rw [hcmp]; rintro e w9 ⟨rfl, hb9⟩; have hck9 := below_cell hb9 hck; have HB9 := Lib.hid (hbr.trans (hb9.mono hbr.size))) | (at_builtin; go_must (first | (clear n1; refine appS (w0 := _) (base := w.heap.size) rfl _ _ rfl _ [] rfl ⟨g, 0, none⟩ cap (F.take k) (by rw [List.length_take, Nat.min_eq_left hk]; rfl) (fun j hj => by rw [add_of, Nat.zero_add, List.getElem_take]; exact HCW.out _ (HB9.out.alloc HB9.out.size _) j (by simp at hj; omega)) (own_lit _ w.heap.size 9 [] HB9.out.size (by simp [maxLen])) (Below.refl _ _) (by simp; exact Nat.le_succ_of_le HB9.out.size) (by simp; omega) ?_; intro v5 w5 hrow5 hb5 hsz5; have HB5 := Lib.hid ((HB9.out.alloc HB9.out.size _).trans hb5); have HR5 := Lib.hid hrow5; clear hrow5 hb5) | (clear n2; refine app1 (w0 := w5) (base := w.heap.size) rfl _ _ 42 9 (.string ⟨#[]⟩) 16 rfl Tryz.underlying42 info9 rfl (by decide) v5 (strs ([] ++ F.take k)) (.string f) rfl rfl rfl HR5.out (Below.refl _ _) hsz5 (by rw [strs_length]; simp; omega) ?_; intro v6 w6 hrow6 hb6 hsz6 _ _; rw [strs_snoc] at hrow6; have HR6 := Lib.hid hrow6; have HB6 := Lib.hid (HB5.out.trans hb6); clear hrow6 hb6) | (refine appS (w0 := w6) (base := w.heap.size) rfl _ _ rfl v6 ([] ++ F.take k ++ [f]) rfl ⟨g, k, none⟩ (cap - k) (F.drop k) (by rw [List.length_drop]; rfl) (fun j hj => by rw [add_of, List.getElem_drop]; exact HCW.out _ HB6.out (k + j) (by rw [List.length_drop] at hj; omega)) HR6.out (Below.refl _ _) hsz6 (by simp; omega) ?_; intro v7 w7 hrow7 hb7 hsz7; have HR7 := Lib.hid hrow7; have HB7 := Lib.hid (HB6.out.trans hb7); clear hrow7 hb7))))
          go_ret
          refine ⟨⟨_, rfl, ?_, own_nn HR7.out (by rw [strs_length]; simp only [List.length_append, List.length_cons]; omega)⟩, HB7.out⟩
          have := HR7.out
          unfold OwnS
          rw [← HG2.out]
          simpa using this
        · have HX2 := Lib.hid (HX.out (by simpa using hcmp))
          go_wp2_with (go_at_call 95; refine (rless_any x f _ (by omega) (by omega)).mono ?_; rw [hcmp]; rintro e w9 ⟨rfl, hb9⟩)
          exact ⟨⟨k + 1, by omega, by simp, HX2.out, hbr.trans (hb9.mono hbr.size)⟩, by simp [intOf]; omega⟩
      · have hkk : k = F.length := by omega
        have HG2 := Lib.hid (insF_at hS1.out hk HM.out (fun h => absurd h hlt))
        have HB9 := Lib.hid hbr
        subst hkk
        have hkc : (F.length : Int) ≤ (cap : Int) := by omega
        by_cases hcc : F.length = cap
        · have hcc2 : (F.length : Int) = (cap : Int) := by omega
          subst hcc
          go_wp2_with (at_builtin; go_must (first | (clear n1; refine appS (w0 := _) (base := w.heap.size) rfl _ _ rfl _ [] rfl ⟨g, 0, none⟩ F.length (F.take F.length) (by rw [List.length_take, Nat.min_eq_left (Nat.le_refl _)]; rfl) (fun j hj => by rw [add_of, Nat.zero_add, List.getElem_take]; exact HCW.out _ (HB9.out.alloc HB9.out.size _) j (by simp at hj; omega)) (own_lit _ w.heap.size 9 [] HB9.out.size (by simp [maxLen])) (Below.refl _ _) (by simp; exact Nat.le_succ_of_le HB9.out.size) (by simp; omega) ?_; intro v5 w5 hrow5 hb5 hsz5; have HB5 := Lib.hid ((HB9.out.alloc HB9.out.size _).trans hb5); have HR5 := Lib.hid hrow5; clear hrow5 hb5) | (clear n2; refine app1 (w0 := w5) (base := w.heap.size) rfl _ _ 42 9 (.string ⟨#[]⟩) 16 rfl Tryz.underlying42 info9 rfl (by decide) v5 (strs ([] ++ F.take F.length)) (.string f) rfl rfl rfl HR5.out (Below.refl _ _) hsz5 (by rw [strs_length]; simp; omega) ?_; intro v6 w6 hrow6 hb6 hsz6 _ _; rw [strs_snoc] at hrow6; have HR6 := Lib.hid hrow6; have HB6 := Lib.hid (HB5.out.trans hb6); clear hrow6 hb6) | (refine appS (w0 := w6) (base := w.heap.size) rfl _ _ rfl v6 ([] ++ F.take F.length ++ [f]) rfl ⟨g, 0, none⟩ 0 (F.drop F.length) (by rw [List.length_drop, Nat.sub_self]; rfl) (fun j hj => absurd hj (by simp)) HR6.out (Below.refl _ _) hsz6 (by simp; omega) ?_; intro v7 w7 hrow7 hb7 hsz7; have HR7 := Lib.hid hrow7; have HB7 := Lib.hid (HB6.out.trans hb7); clear hrow7 hb7)))
          go_ret
          refine ⟨⟨_, rfl, ?_, own_nn HR7.out (by rw [strs_length]; simp only [List.length_append, List.length_cons]; omega)⟩, HB7.out⟩
          have := HR7.out
          unfold OwnS
          rw [← HG2.out]
          simpa using this
        · have hcc2 : ¬ (F.length : Int) = (cap : Int) := by omega
          go_wp2_with (at_builtin; go_must (first | (clear n1; refine appS (w0 := _) (base := w.heap.size) rfl _ _ rfl _ [] rfl ⟨g, 0, none⟩ cap (F.take F.length) (by rw [List.length_take, Nat.min_eq_left (Nat.le_refl _)]; rfl) (fun j hj => by rw [add_of, Nat.zero_add, List.getElem_take]; exact HCW.out _ (HB9.out.alloc HB9.out.size _) j (by simp at hj; omega)) (own_lit _ w.heap.size 9 [] HB9.out.size (by simp [maxLen])) (Below.refl _ _) (by simp; exact Nat.le_succ_of_le HB9.out.size) (by simp; omega) ?_; intro v5 w5 hrow5 hb5 hsz5; have HB5 := Lib.hid ((HB9.out.alloc HB9.out.size _).trans hb5); have HR5 := Lib.hid hrow5; clear hrow5 hb5) | (clear n2; refine app1 (w0 := w5) (base := w.heap.size) rfl _ _ 42 9 (.string ⟨#[]⟩) 16 rfl Tryz.underlying42 info9 rfl (by decide) v5 (strs ([] ++ F.take F.length)) (.string f) rfl rfl rfl HR5.out (Below.refl _ _) hsz5 (by rw [strs_length]; simp; omega) ?_; intro v6 w6 hrow6 hb6 hsz6 _ _; rw [strs_snoc] at hrow6; have HR6 := Lib.hid hrow6; have HB6 := Lib.hid (HB5.out.trans hb6); clear hrow6 hb6) | (refine appS (w0 := w6) (base := w.heap.size) rfl _ _ rfl v6 ([] ++ F.take F.length ++ [f]) rfl ⟨g, F.length, none⟩ (cap - F.length) (F.drop F.length) (by rw [List.length_drop, Nat.sub_self]; rfl) (fun j hj => by rw [add_of, List.getElem_drop]; exact HCW.out _ HB6.out (F.length + j) (by rw [List.length_drop] at hj; omega)) HR6.out (Below.refl _ _) hsz6 (by simp; omega) ?_; intro v7 w7 hrow7 hb7 hsz7; have HR7 := Lib.hid hrow7; have HB7 := Lib.hid (HB6.out.trans hb7); clear hrow7 hb7)))
          go_ret
          refine ⟨⟨_, rfl, ?_, own_nn HR7.out (by rw [strs_length]; simp only [List.length_append, List.length_cons]; omega)⟩, HB7.out⟩
          have := HR7.out
          unfold OwnS
          rw [← HG2.out]
          simpa using this
theorem filt_take (F : List ByteArray) (f : ByteArray) (k : Nat) (hk : k < F.length) : (F.take (k + 1)).filter (fun x => decide (x ≠ f)) = (F.take k).filter (fun x => decide (x ≠ f)) ++ (if F[k] = f then [] else [F[k]]) := by
  rw [List.take_add_one, List.filter_append, List.getElem?_eq_getElem hk]
  by_cases h : F[k] = f <;> simp [h]
set_option maxRecDepth 100000 in
set_option maxHeartbeats 4000000 in
theorem rwithout_any (v1 : Value) (g2 cap2 : Nat) (F : List ByteArray) (f : ByteArray) (w : World) (base : Nat) (h1 : OwnS w base v1 F) (hnn : v1 ≠ .slice none 0 0) (hl : F.length ≤ 1000) (h2 : w.cell? ⟨g2, 0, none⟩ = some (.string f)) :
    Calls Tryz.prog 31 #[v1, .slice (some ⟨g2, 0, none⟩) 1 cap2] w fun e w' => (∃ v, e = .returned v ∧ OwnS w' w.heap.size v (F.filter fun x => decide (x ≠ f)) ∧ v ≠ .slice none 0 0) ∧ Below w.heap.size w w' := by
  have hel : (strs F).length = F.length := strs_length F
  obtain ⟨g, cap, rfl, hgb, hg, hnc, hcell⟩ := own_open2 h1 hnn
  rw [hel] at hnc ⊢
  have hg2 := World.block_lt_of_cell? w _ h2
  have HC : Hid (∀ W, Below w.heap.size w W → ∀ j (hj : j < F.length), W.cell? ⟨g, j, none⟩ = some (.string F[j])) := Lib.hid fun W hb j hj => by rw [hb.cell (p := ⟨g, j, none⟩) hg, hcell j (by omega)]; simp [strs]
  have HC2 : Hid (∀ W, Below w.heap.size w W → W.cell? ⟨g2, 0, none⟩ = some (.string f)) := Lib.hid fun W hb => (hb.cell (p := ⟨g2, 0, none⟩) hg2).trans h2
  clear h1 hnn hcell hel h2
  go_enter Tryz.func31, Tryz.ntmps31
  go_wp2
  go_loopw [5, 6] (fun v c wr => ∃ k : Nat, k ≤ F.length ∧ c = .int .i64 k ∧ v ≠ .slice none 0 0 ∧ wr.ownsRow w.heap.size 9 1 v (strs ((F.take k).filter fun x => decide (x ≠ f))).length (strs ((F.take k).filter fun x => decide (x ≠ f))) ∧ Below w.heap.size w wr) (fun _ c _ => F.length - (intOf c).toNat)
  case atStart => exact ⟨0, Nat.zero_le _, rfl, by simp, own_lit w w.heap.size 9 [] (Nat.le_refl _) (by simp [maxLen]), below_al (Below.refl _ _) _⟩
  case round =>
    obtain ⟨k, hk, rfl, hnv, hrow, hbr⟩ := hrel
    have HROW := Lib.hid hrow
    have HBR := Lib.hid hbr
    have HNV := Lib.hid hnv
    have hszw := hbr.size
    clear hrow hbr hnv
    by_cases hlt : k < F.length
    · have q1 := HC.out _ HBR.out k hlt
      have q2 := HC2.out _ HBR.out
      have HT := Lib.hid (filt_take F f k hlt)
      have hfl : ((F.take k).filter fun x => decide (x ≠ f)).length ≤ k := by
        have := List.length_filter_le (fun x => decide (x ≠ f)) (F.take k)
        simp at this ⊢
        omega
      have HFL := Lib.hid hfl
      generalize F[k] = x at *
      have h0k : (0 : Int) ≤ (k : Int) := by omega
      have hki : (k : Int) < (F.length : Int) := by omega
      clear hfl
      generalize ((F.take k).filter fun x => decide (x ≠ f)) = P at *
      by_cases hq : x = f
      · subst hq
        have HN : Hid (((F.take (k + 1)).filter fun y => decide (y ≠ x)) = P) := Lib.hid (by rw [HT.out]; simp)
        go_wp2_with fail
        refine wp_loop_rounds 2 ?_
        rw [rounds_succ]
        go_wp2_with fail
        go_quiet (fail)
        go_wp2_with fail
        rw [rounds_succ]
        go_wp2_with fail
        refine ⟨⟨k + 1, by omega, by simp, HNV.out, ?_, below_drewN HBR.out _⟩, by simp [intOf]; omega⟩
        rw [HN.out]
        exact HROW.out
      · have HN : Hid (((F.take (k + 1)).filter fun y => decide (y ≠ f)) = P ++ [x]) := Lib.hid (by rw [HT.out, if_neg hq])
        have hqq : (x.toList == f.toList) = false := by
          have : x.toList ≠ f.toList := fun e => hq (ba_inj e)
          simpa using this
        clear hq
        go_wp2_with fail
        refine wp_loop_rounds 2 ?_
        rw [rounds_succ]
        go_wp2_with fail
        go_quiet (fail)
        go_wp2_with fail
        rw [rounds_succ]
        have q3 : (wr.drewN nq).cell? ⟨g, k, none⟩ = some (.string x) := q1
        have HROW2 : Hid ((wr.drewN nq).ownsRow w.heap.size 9 1 u5 (strs P).length (strs P)) := HROW
        have HBR2 := Lib.hid (below_drewN HBR.out nq)
        have hsz2 : w.heap.size ≤ (wr.drewN nq).heap.size := hszw
        clear q1 q2 HROW HBR hszw
        generalize wr.drewN nq = wy at *
        go_wp2_with (at_builtin; go_must (refine app1 (w0 := wy) (base := w.heap.size) rfl _ _ 42 9 (.string ⟨#[]⟩) 16 rfl Tryz.underlying42 info9 rfl (by decide) u5 (strs P) (.string x) rfl rfl rfl HROW2.out (Below.refl _ _) hsz2 (by rw [strs_length]; have := HFL.out; omega) ?_); intro v5 w5 hrow5 hb5 hsz5 _ _; have HR5 := Lib.hid hrow5; have HB5 := Lib.hid (HBR2.out.trans hb5); clear hrow5 hb5)
        refine ⟨⟨k + 1, by omega, by simp, own_nn HR5.out (by simp), ?_, HB5.out⟩, by simp [intOf]; omega⟩
        rw [HN.out, ← strs_snoc]
        exact HR5.out
    · have hkk : k = F.length := by omega
      subst hkk
      go_wp2
      go_ret
      refine ⟨⟨_, rfl, ?_, HNV.out⟩, HBR.out⟩
      have := HROW.out
      rw [List.take_length] at this
      exact this
end Go.Proofs.YtjabhhpmofodlaaGreatDoor
