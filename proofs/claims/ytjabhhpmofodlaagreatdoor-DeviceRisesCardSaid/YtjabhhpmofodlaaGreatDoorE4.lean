/- event.Cut. -/
import Derived.Test.YtjabhhpmofodlaaGreatDoorE3
namespace Go.Proofs.YtjabhhpmofodlaaGreatDoor
open Go.RowKit
set_option linter.unusedVariables false
set_option linter.unusedSimpArgs false
def flat (ms : List Mk) : List Value := ms.flatMap fun m => [.int .i64 m.1, .int .i64 m.2]
theorem flat_length (ms : List Mk) : (flat ms).length = ms.length * 2 := by
  induction ms with
  | nil => rfl
  | cons a r ih => simp [flat] at *; omega
theorem flat_snoc (ms : List Mk) (m : Mk) : flat ms ++ [.int .i64 m.1, .int .i64 m.2] = flat (ms ++ [m]) := by simp [flat]
theorem flat_get (ms : List Mk) (j : Nat) (hj : j < ms.length) : (flat ms)[j * 2]? = some (.int .i64 ms[j].1) ∧ (flat ms)[j * 2 + 1]? = some (.int .i64 ms[j].2) := by
  induction ms generalizing j with
  | nil => simp at hj
  | cons a r ih =>
    have e : flat (a :: r) = .int .i64 a.1 :: .int .i64 a.2 :: flat r := rfl
    cases j with
    | zero => rw [e]; exact ⟨rfl, rfl⟩
    | succ j =>
      have := ih j (by simpa using hj)
      rw [e, show (j + 1) * 2 = j * 2 + 1 + 1 by omega]
      simpa using this
def OwnM (w : World) (base : Nat) (v : Value) (ms : List Mk) : Prop := w.ownsRow base 47 2 v ms.length (flat ms)
theorem OwnM.at_ {w : World} {base : Nat} {v : Value} {ms : List Mk} (h : OwnM w base v ms) : MsAt w w.heap.size v ms := by
  rcases h.2 with ⟨rfl, h2⟩ | ⟨g, cap, cur, rfl, hg, hb, hn, hm, hs, hc⟩
  · obtain rfl : ms = [] := List.eq_nil_of_length_eq_zero h2
    exact MsAt.nil _ _
  · refine ⟨_, cap, rfl, fun j hj => ⟨g, rfl, (Array.getElem?_eq_some_iff.1 hb).1, ?_, ?_⟩⟩
    · have := (flat_get ms j hj).1
      rw [← hc, List.getElem?_take_of_lt (by omega)] at this
      rw [cell_arr hb]; simpa using this
    · have := (flat_get ms j hj).2
      rw [← hc, List.getElem?_take_of_lt (by omega)] at this
      rw [cell_arr hb]; simpa using this
theorem own_turn {w w' : World} {base n size : Nat} {e : TypeId} {v : Value} {xs : List Value} {S : Nat → Prop} (h : w.ownsRow base e size v n xs) (ht : Turn S w w') (hs : ∀ g, base ≤ g → ¬ S g) : w'.ownsRow base e size v n xs := by
  obtain ⟨h1, h2⟩ := h
  refine ⟨h1, ?_⟩
  rcases h2 with h2 | ⟨g, cap, cur, rfl, hg, hb, r⟩
  · exact .inl h2
  · exact .inr ⟨g, cap, cur, rfl, hg, (ht.block g (Array.getElem?_eq_some_iff.1 hb).1 (hs g hg)).trans hb, r⟩
section
variable {P : Program} {ops : Array Oper} {rest : List Oper} {o : Oper} {a : Act} {Q : Exit → Act → World → Prop}
/-- append(v, y), y of two cells (its block has been laid for it): behind 'at_builtin'. -/
theorem app2 {w0 W : World} {base : Nat} (hgd : o.guard = none) (s x : Operand) (t e : TypeId) (z : Value) (bytes : Nat)
    (ho : o.op = .call { callee := .builtin .append, args := #[s, x], argTypes := #[t, t] })
    (ht : P.underlying t = some (.slice e)) (hinfo : (P.info? e).map (fun i => (i.zero, i.size, i.bytes)) = some (some z, 2, bytes)) (hz : z.cells.size = 2) (hb0 : 0 < bytes)
    (v : Value) (n : Nat) (xs : List Value) (y1 y2 : Value) (hs : a.eval s = v) (hx : a.eval x = .slice (some ⟨W.heap.size, 0, none⟩) 1 1) (h1 : y1.oneCell' = true) (h2 : y2.oneCell' = true)
    (HO : W.ownsRow base e 2 v n xs) (HB : Below base w0 W) (hbase : base ≤ W.heap.size) (hl : (n + 1) * bytes ≤ 140737488355328)
    (h : ∀ v1 w1, w1.ownsRow base e 2 v1 (n + 1) (xs ++ [y1, y2]) → Below base w0 w1 → base ≤ w1.heap.size → W.grownBy w1 v.ownBlock → (v1.ownBlock = v.ownBlock ∨ ∃ b, v1.ownBlock = some b ∧ W.heap.size ≤ b) → wpList P ops Q rest (a.put o.dst v1) w1) :
    wpList P ops Q (o :: rest) a (W.alloc (.cells #[y1, y2] e)) := by
  obtain ⟨i0, hi, hzz⟩ := Option.map_eq_some_iff.1 hinfo
  simp only [Prod.mk.injEq] at hzz
  obtain ⟨hz0, hz1, hz2⟩ := hzz
  have hlen : n + 1 ≤ 140737488355328 := Nat.le_trans (Nat.le_mul_of_pos_right _ hb0) hl
  refine wpList_append_own_at (W.alloc (.cells #[y1, y2] e)) hgd s x t ho base e i0 z 2 bytes ht hi hz0 hz1 hz2 hz (by omega) v n xs hs (HO.alloc _) ⟨W.heap.size, 0, none⟩ 1 1 [y1, y2] hx rfl
    (World.news_of_block (cs := #[y1, y2]) (t := e) (fr := (0, 0)) (heap_alloc_new W _)) (by simp [h1, h2]) (by simp only [maxLen]; omega) hl (by simp; omega) ?_
  intro v1 w1 hown hg _ hat
  refine h v1 w1 hown ((HB.alloc hbase _).grown hg (by simp; omega) (own_base HO)) ?_ (World.grownBy.trans (World.grownBy_alloc W _ _) hg) ?_
  · have := hg.size; simp at this; omega
  · rcases hat with hat | hat
    · exact .inl hat
    · exact .inr ⟨_, hat, by simp⟩
end
theorem info47 : (Tryz.prog.info? 47).map (fun i => (i.zero, i.size, i.bytes)) = some (some (.agg #[.int .i64 0, .int .i64 0]), 2, 16) := by kernel_rfl
def rmarks (s : ByteArray) : Nat → Int → Int → List Mk × Int × Int
  | 0, a, bad => ([], a, bad)
  | m + 1, a, bad =>
    let r1 := rnum s a bad
    let r2 := rnum s r1.2.1 r1.2.2
    let r := rmarks s m r2.2.1 r2.2.2
    ((r1.1, r2.1) :: r.1, r.2)
theorem rmarks_length (s : ByteArray) (m : Nat) (a bad : Int) : (rmarks s m a bad).1.length = m := by
  induction m generalizing a bad with
  | zero => rfl
  | succ m ih => simp [rmarks, ih]
def ecut (s : ByteArray) (a : Int) : List Mk × Int × Int :=
  let r0 := rnum s a 0
  if 32 < r0.1 then ([], 0, 2) else
  let r := rmarks s r0.1.toNat r0.2.1 r0.2.2
  if r.2.2 ≠ 0 then ([], 0, r.2.2) else if sortB r.1 = false then ([], 0, 4) else (r.1, r.2.1, 0)
theorem rnum_bounds (s : ByteArray) (a bad : Int) : -1 ≤ (rnum s a bad).1 ∧ (rnum s a bad).1 ≤ 1099511627777 := by
  have h := vget_ok s a
  unfold rnum
  split
  · simp
  · split
    · simp
    · simp only; omega
set_option maxRecDepth 100000 in
set_option maxHeartbeats 4000000 in
theorem ecut_any (s : ByteArray) (a : Int) (w : World) (hs : s.size ≤ 9223372036854775807) :
    Calls Tryz.prog 136 #[.string s, .int .i64 a] w fun e w' => (∃ v, e = .returned (.tuple #[v, .int .i64 (ecut s a).2.1, .int .i64 (ecut s a).2.2]) ∧ OwnM w' w.heap.size v (ecut s a).1) ∧ Below w.heap.size w w' := by
  have hR := reader_any s a w
  unfold rdNum rdText rdEnd at hR
  have HN := Lib.hid (fun a bad B w h => rnum_any s a bad B w hs h)
  have hb0 := rnum_bounds s a 0
  generalize hE : ecut s a = E
  have HE := Lib.hid hE
  clear hE
  generalize hr0 : rnum s a 0 = r0 at *
  obtain ⟨n0, a0, bad0⟩ := r0
  have HR0 := Lib.hid hr0
  clear hr0
  simp only at *
  have hNum : Hid (∀ W, Rd W w.heap.size s a 0 → Calls Tryz.prog 208 #[.pointer (some ⟨w.heap.size, 0, none⟩), .pointer (some ⟨w.heap.size + 1, 0, none⟩), .pointer (some ⟨w.heap.size + 2, 0, none⟩)] W fun e w' => e = .returned (.int .i64 n0) ∧ Rd w' w.heap.size s a0 bad0 ∧ Turn (fun i => i = w.heap.size + 1 ∨ i = w.heap.size + 2) W w') := Lib.hid fun W h => by
    have := HN.out a 0 w.heap.size W h
    rw [HR0.out] at this
    exact this
  by_cases h32 : 32 < n0
  · have hE : E = ([], 0, 2) := by rw [← HE.out]; unfold ecut; rw [HR0.out]; simp [h32]
    subst hE
    go_enter Tryz.func136, Tryz.ntmps136
    go_wp2_with (first | (go_at_call 186; refine hR.mono ?_; rintro e w1 ⟨rfl, hrd, hb1⟩) | (go_at_call 208; refine (hNum.out _ hrd).mono ?_; rintro e w2 ⟨rfl, hrd2, ht2⟩))
    go_ret3
    exact ⟨⟨_, rfl, World.ownsRow_nil _ _ _ _⟩, hb1.trans (ht2.below hb1.size (by intro i hi; omega))⟩
  · obtain ⟨m, hm⟩ : ∃ m : Nat, n0.toNat = m := ⟨_, rfl⟩
    have hml : m ≤ 32 := by omega
    have HM := Lib.hid hm
    have HL := Lib.hid (rmarks_length s m a0 bad0)
    go_enter Tryz.func136, Tryz.ntmps136
    go_wp2_with (first | (go_at_call 186; refine hR.mono ?_; rintro e w1 ⟨rfl, hrd, hb1⟩) | (go_at_call 208; refine (hNum.out _ hrd).mono ?_; rintro e w2 ⟨rfl, hrd2, ht2⟩))
    have hbB : Below w.heap.size w w2 := hb1.trans (ht2.below hb1.size (by intro i hi; omega))
    have hsz : w.heap.size + 3 ≤ w2.heap.size := by have := hrd2.2.2.lt; omega
    clear hb1 ht2 hrd hR hNum
    generalize hB : w.heap.size = B at *
    have HB := Lib.hid hB
    clear hB
    go_loopw [11, 26] (fun v c wr => ∃ (pre : List Mk) (a' bad' : Int), pre.length ≤ m ∧ c = .int .i64 pre.length ∧ rmarks s m a0 bad0 = (pre ++ (rmarks s (m - pre.length) a' bad').1, (rmarks s (m - pre.length) a' bad').2) ∧ Rd wr B s a' bad' ∧ wr.ownsRow (B + 3) 47 2 v pre.length (flat pre) ∧ Below B w wr ∧ B + 3 ≤ wr.heap.size) (fun _ c _ => m - (intOf c).toNat)
    case atStart => exact ⟨[], a0, bad0, Nat.zero_le _, rfl, by simp, hrd2, World.ownsRow_nil _ _ _ _, hbB, hsz⟩
    case round =>
      obtain ⟨pre, a1, bad1, hpl, rfl, hrm, hrd1, hrow, hbw, hsz1⟩ := hrel
      have HRM := Lib.hid hrm
      clear hrm
      by_cases hlt : pre.length < m
      · obtain ⟨k, hk⟩ : ∃ k, m - pre.length = k + 1 := ⟨m - pre.length - 1, by omega⟩
        have HN1 := Lib.hid (HN.out a1 bad1 B)
        have HQ : Hid (rmarks s (m - pre.length) a1 bad1 = (((rnum s a1 bad1).1, (rnum s (rnum s a1 bad1).2.1 (rnum s a1 bad1).2.2).1) :: (rmarks s k (rnum s (rnum s a1 bad1).2.1 (rnum s a1 bad1).2.2).2.1 (rnum s (rnum s a1 bad1).2.1 (rnum s a1 bad1).2.2).2.2).1, (rmarks s k (rnum s (rnum s a1 bad1).2.1 (rnum s a1 bad1).2.2).2.1 (rnum s (rnum s a1 bad1).2.1 (rnum s a1 bad1).2.2).2.2).2)) := Lib.hid (by rw [hk]; rfl)
        generalize rnum s a1 bad1 = r1 at *
        obtain ⟨o, a2, bad2⟩ := r1
        have HN2 := Lib.hid (HN.out a2 bad2 B)
        generalize rnum s a2 bad2 = r2 at *
        obtain ⟨q, a3, bad3⟩ := r2
        simp only at HN1 HN2 HQ
        have hlt' : (pre.length : Int) < n0 := by omega
        have m1 : True := trivial
        go_wp2_with (first | (go_at_call 208; go_must (first | (clear m1; refine (HN1.out _ hrd1).mono ?_; rintro e w3 ⟨rfl, hrd3, ht3⟩) | (refine (HN2.out _ hrd3).mono ?_; rintro e w4 ⟨rfl, hrd4, ht4⟩; have hrow4 := own_turn (own_turn hrow ht3 (by intro g hg; omega)) ht4 (by intro g hg; omega); have hbw4 := hbw.trans ((ht3.trans ht4 (fun _ _ h => h)).below (B := B) (by omega) (by intro i hi; omega)); have hsz4 : B + 3 ≤ w4.heap.size := by have := hrd4.2.2.lt; omega))) | (at_builtin; go_must (refine app2 (w0 := w4) (base := B + 3) rfl _ _ 40 47 (.agg #[.int .i64 0, .int .i64 0]) 16 rfl Tryz.underlying40 info47 rfl (by decide) u11 pre.length (flat pre) (.int .i64 o) (.int .i64 q) rfl rfl rfl rfl hrow4 (Below.refl _ _) hsz4 (by omega) ?_); intro v5 w5 hrow5 hb5 hsz5 _ _))
        have hpl2 : (pre ++ [(o, q)]).length = pre.length + 1 := by simp
        refine ⟨⟨pre ++ [(o, q)], a3, bad3, by omega, by simp, ?_, hrd4.below hb5 (by omega), ?_, hbw4.trans (hb5.mono (by omega)), hsz5⟩, by simp [intOf]; omega⟩
        · rw [HRM.out, HQ.out, hpl2, show m - (pre.length + 1) = k by omega]
          simp
        · rw [hpl2, ← flat_snoc]; exact hrow5
      · have hpm : pre.length = m := by omega
        have hrm0 : rmarks s m a0 bad0 = (pre, a1, bad1) := by rw [HRM.out, hpm]; simp [rmarks]
        have HF : Hid (E = if bad1 ≠ 0 then ([], 0, bad1) else if sortB pre = false then ([], 0, 4) else (pre, a1, 0)) := Lib.hid (by rw [← HE.out]; unfold ecut; rw [HR0.out]; simp only; rw [if_neg (by omega), HM.out, hrm0])
        clear hrm0
        have hO : OwnM wr (B + 3) u11 pre := hrow
        have HO := Lib.hid hO
        have hend := rend_any s a1 bad1 B
        have hle : pre.length ≤ 32 := by omega
        by_cases hbad : bad1 = 0
        · subst hbad
          cases hS : sortB pre with
          | true =>
            have hE : E = (pre, a1, 0) := by rw [HF.out]; simp [hS]
            subst hE
            go_wp2_with (first | (go_at_call 210; refine (hend _ hrd1).mono ?_; rintro e w6 ⟨rfl, hb6⟩) | (go_at_call 141; refine (sorted_any _ pre _ ((HO.out.at_.below hb6).mono hb6.size) (by omega)).mono ?_; rw [hS]; rintro e w7 ⟨rfl, hb7⟩))
            go_ret3
            have hb67 := below_go hb6 hb7
            rw [HB.out]
            refine ⟨⟨_, rfl, ?_⟩, hbw.trans (hb67.mono (by omega))⟩
            exact own_weaken (own_turn HO.out (Turn.of_below' (S := fun _ => False) hb67) (by simp)) (by omega)
          | false =>
            have hE : E = ([], 0, 4) := by rw [HF.out]; simp [hS]
            subst hE
            go_wp2_with (first | (go_at_call 210; refine (hend _ hrd1).mono ?_; rintro e w6 ⟨rfl, hb6⟩) | (go_at_call 141; refine (sorted_any _ pre _ ((HO.out.at_.below hb6).mono hb6.size) (by omega)).mono ?_; rw [hS]; rintro e w7 ⟨rfl, hb7⟩))
            go_ret3
            have hb67 := below_go hb6 hb7
            rw [HB.out]; exact ⟨⟨_, rfl, World.ownsRow_nil _ _ _ _⟩, hbw.trans (hb67.mono (by omega))⟩
        · have hbad' : (bad1 != 0) = true := by simpa using hbad
          have hE : E = ([], 0, bad1) := by rw [HF.out]; simp [hbad]
          subst hE
          go_wp2_with (first | (go_at_call 210; refine (hend _ hrd1).mono ?_; rintro e w6 ⟨rfl, hb6⟩))
          go_ret3
          rw [HB.out]; exact ⟨⟨_, rfl, World.ownsRow_nil _ _ _ _⟩, hbw.trans (hb6.mono (by omega))⟩
end Go.Proofs.YtjabhhpmofodlaaGreatDoor
