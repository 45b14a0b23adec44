/- rivuletlaw19.DeviceAsks. -/
import Derived.Test.YtjabhhpmofodlaaGreatDoorH3
import Derived.Test.YtjabhhpmofodlaaGreatDoorA3
import Derived.Deep.RegionHeld3
namespace Go.Proofs.YtjabhhpmofodlaaGreatDoor
open Go.RowKit
set_option linter.unusedVariables false
set_option linter.unusedSimpArgs false
/-- Blocks of cells that are no device's are kept. -/
structure Kt (w w' : World) : Prop where
  keep : ∀ (g : Nat) (cur : Array Value) (e : TypeId) (z : Nat × Nat), w.heap[g]? = some (.cells cur e z) → e ≠ 124 → w'.heap[g]? = w.heap[g]?
theorem Kt.of {w w' : World} (h : Below w.heap.size w w') : Kt w w' := ⟨fun g cur e z hg _ => h.block g (Array.getElem?_eq_some_iff.1 hg).1⟩
theorem Kt.trans {a b c : World} (h : Kt a b) (k : Kt b c) : Kt a c := ⟨fun g cur e z hg he => by
  have h1 := h.keep g cur e z hg he
  exact (k.keep g cur e z (h1.trans hg) he).trans h1⟩
theorem Kt.own {w w' : World} {base n size : Nat} {e : TypeId} {v : Value} {xs : List Value} (h : w.ownsRow base e size v n xs) (hk : Kt w w') (he : e ≠ 124) : w'.ownsRow base e size v n xs := by
  obtain ⟨h1, h2⟩ := h
  refine ⟨h1, ?_⟩
  rcases h2 with h2 | ⟨g, cap, cur, rfl, hg, hb, r⟩
  · exact .inl h2
  · exact .inr ⟨g, cap, cur, rfl, hg, (hk.keep g _ _ _ hb he).trans hb, r⟩
theorem kt_step {w w' : World} {bd bm : Nat} {L : List G} {D' : List D1} (h : DevAt w bd bm L) (hs : Step w bd bm L w' D') : Kt w w' := by
  obtain ⟨L', g1, g2, g3, g4⟩ := hs
  refine ⟨fun g cur e z hg he => g4.block g (Array.getElem?_eq_some_iff.1 hg).1 ?_⟩
  rintro (rfl | ⟨x, hx, rfl | rfl⟩)
  · obtain ⟨es, c, hb, _⟩ := h.map
    rw [hb] at hg; cases hg
  · obtain ⟨vf, hb, _⟩ := h.ones x hx
    rw [hb] at hg
    simp at hg
    exact he hg.2.1.symm
  · obtain ⟨vf, _, _, ⟨es, c, hb, _⟩⟩ := h.ones x hx
    rw [hb] at hg; cases hg
theorem ask_kt {B : Nat} {w : World} {bd bm : Nat} {D : List D1} (h : St B w bd bm D) (hB : B ≤ w.heap.size) (id : Int) (f : ByteArray) (on : Bool) (hid : -9223372036854775808 ≤ id ∧ id ≤ 9223372036854775807) (hf : f.size ≤ 1000000) :
    Calls Tryz.prog 25 #[.pointer (some ⟨bd, 0, none⟩), .int .i64 id, .string f, .bool on] w fun e w' => e = .returned (.int .i64 (dAsk D id f on).1) ∧ St B w' bd bm (dAsk D id f on).2 ∧ Kp B w w' ∧ Kt w w' := by
  obtain ⟨L, h1, rfl, h3, h4⟩ := h
  refine (ask_any id f on bd bm L w h1 hid h4 hf).mono ?_
  rintro e w' ⟨rfl, hs⟩
  obtain ⟨a, b⟩ := St.step h3 hB hs (dAsk_inv h4 id f on hf) h1
  exact ⟨rfl, a, b, kt_step h1 hs⟩
theorem beq_ba (x y : ByteArray) : (x.toList == y.toList) = decide (x = y) := by
  by_cases h : x = y
  · subst h; simp
  · have : x.toList ≠ y.toList := fun e => h (ba_inj e)
    simp [h, this]
theorem X1_eq : X1 = [(1, [], [])] := rfl
theorem has_take (F : List ByteArray) (f : ByteArray) (k : Nat) (hk : k < F.length) : hasB f (F.take (k + 1)) = (hasB f (F.take k) || decide (F[k] = f)) := by
  unfold hasB
  rw [List.take_add_one, List.any_append, List.getElem?_eq_getElem hk]; simp
theorem one_inv {F : List ByteArray} (h : DInv [(1, F, [])]) : F.length ≤ 8 ∧ FSorted F ∧ ∀ x ∈ F, x.size ≤ 1000000 := by
  have hX := h.xs (1, F, []) (by simp)
  exact ⟨hX.fl, hX.fo, hX.fs⟩
theorem fil_one (F : List ByteArray) : dFil [(1, F, [])] 1 = F := by unfold dFil; simp
theorem dec_self' {α : Type} [DecidableEq α] (a : α) : decide (a = a) = true := by simp
set_option maxRecDepth 100000 in
set_option maxHeartbeats 8000000 in
theorem asks_any (v : Value) (l : List Op) (w : World) (hv : OpsAt w w.heap.size v l) (hl : l.length ≤ 9223372036854775807) (hw : ∀ o ∈ l, OpWf o) :
    Calls Tryz.prog 5 #[v] w fun r w' => r = .returned (.bool true) ∧ Below w.heap.size w w' := by
  have HCUT := Lib.hid (cut_ops_any v l w hv hl fun o ho => ⟨(hw o ho).2.2.1, (hw o ho).2.2.2.1, (hw o ho).2.2.2.2⟩)
  have HHW := Lib.hid hw
  clear hv hl hw
  go_enter Tryz.func5, Tryz.ntmps5
  go_wp2_with (first | (go_at_call 19; refine HCUT.out.mono ?_; rintro r w1 ⟨v1, rfl, hr1, hb1⟩) | (go_at_call 20; refine (new_st _).mono ?_; rintro r w2 ⟨⟨bd, bm, rfl, s2⟩, hb2⟩; obtain ⟨ops, p, cap, hv1, hop1, hops, hmem, hpb⟩ := script_of hr1 HHW.out; subst hv1; have HOP := Lib.hid (OpsP.kp hop1 (Kp.of hb2 (Nat.le_refl _))); have HMEM := Lib.hid hmem; clear hop1 hmem hpb hr1) | (go_at_call 23; refine (join_st s2 hb2.size 1).mono ?_; rw [j1]; rintro e w3 ⟨rfl, s3, k3⟩))
  have HB2 := Lib.hid (hb1.trans (hb2.mono hb1.size))
  have h12 := hb2.size
  have h01 := hb1.size
  have h23 := k3.size
  rw [X1_eq] at s3
  have HS0 := Lib.hid (s3.below (below_al (Below.refl _ _) (.cells #[] 9)))
  have HK0 : Hid (Kp w1.heap.size w2 (w3.alloc (.cells #[] 9))) := Lib.hid (k3.trans (Kp.of (below_al (Below.refl _ _) _) (Nat.le_trans h12 h23)))
  have HO0 : Hid (OwnS (w3.alloc (.cells #[] 9)) w1.heap.size (.slice (some ⟨w3.heap.size, 0, none⟩) 0 0) []) := Lib.hid (own_lit w3 w1.heap.size 9 [] (Nat.le_trans h12 h23) (by simp [maxLen]))
  clear hb1 hb2 HCUT s2 s3 k3
  go_loopw [5, 6] (fun v c wr => ∃ (k : Nat) (F : List ByteArray), k ≤ ops.length ∧ c = .int .i64 k ∧ St w1.heap.size wr bd bm [(1, F, [])] ∧ OwnS wr w1.heap.size v F ∧ v ≠ .slice none 0 0 ∧ Kp w1.heap.size w2 wr) (fun _ c _ => ops.length - (intOf c).toNat)
  case atStart => exact ⟨0, [], Nat.zero_le _, rfl, HS0.out, HO0.out, by simp, HK0.out⟩
  case round =>
    obtain ⟨k, F, hk, rfl, hst, hown, hnn, hkp⟩ := hrel
    have HKP := Lib.hid hkp
    have HST := Lib.hid hst
    have HOWN := Lib.hid hown
    have HNN := Lib.hid hnn
    have hBr : w1.heap.size ≤ wr.heap.size := Nat.le_trans h12 hkp.size
    clear hkp hst hown hnn HS0 HK0 HO0
    by_cases hlt : k < ops.length
    · obtain ⟨g, rfl, hc⟩ := HOP.out.kp HKP.out k hlt
      have hwf := HMEM.out ops[k] (by simp)
      generalize ops[k] = x at *
      obtain ⟨xk, xid, f, on, ⟨yo, ys, yt, yl, yk⟩⟩ := x
      have c0 : wr.cell? ⟨g, k * 9, none⟩ = some (.int .i64 xk) := hc 0 _ rfl
      have c1 := hc 1 _ rfl
      have c2 := hc 2 _ rfl
      have c3 := hc 3 _ rfl
      have c4 := hc 4 _ rfl
      have c5 := hc 5 _ rfl
      have c6 := hc 6 _ rfl
      have c7 := hc 7 _ rfl
      have c8 := hc 8 _ rfl
      obtain ⟨⟨i1, i2, _, _, _⟩, i3, i4⟩ := hwf
      simp only at i1 i2 i3 i4
      have hk80 : k < 80 := by omega
      obtain ⟨hF8, hFS, hFZ⟩ := one_inv HST.out.inv
      have HFS := Lib.hid hFS
      have HFZ := Lib.hid hFZ
      have hel : (strs F).length = F.length := strs_length F
      obtain ⟨gh, caph, hvh, hgb, hgh, hnc, hcell⟩ := own_open2 HOWN.out HNN.out
      rw [hel] at hvh hnc
      subst hvh
      have HCF : Hid (∀ j (hj : j < F.length), wr.cell? ⟨gh, j, none⟩ = some (.string F[j])) := Lib.hid fun j hj => by rw [hcell j (by omega)]; simp [strs]
      clear hc hFS hFZ hel hcell
      go_wp2_with fail
      obtain ⟨wo, hwo⟩ : ∃ wo, wr.alloc (.cells #[.int .i64 xk, .int .i64 xid, .string f, .bool on, .int .i64 yo, .int .i64 ys, .string yt, .string yl, .int .i64 yk] 39) = wo := ⟨_, rfl⟩
      have hbo : Below wr.heap.size wr wo := by rw [← hwo]; exact below_al (Below.refl _ _) _
      have hob : wo.heap[wr.heap.size]? = some (.cells #[.int .i64 xk, .int .i64 xid, .string f, .bool on, .int .i64 yo, .int .i64 ys, .string yt, .string yl, .int .i64 yk] 39) := by rw [← hwo]; exact World.alloc_heap_new wr _
      have b0 : wo.cell? ⟨wr.heap.size, 0, none⟩ = some (.int .i64 xk) := cell_arr hob 0
      have b2 : wo.cell? ⟨wr.heap.size, 2, none⟩ = some (.string f) := cell_arr hob 2
      have b3 : wo.cell? ⟨wr.heap.size, 3, none⟩ = some (.bool on) := cell_arr hob 3
      obtain ⟨B0, hB0⟩ : ∃ B0, wr.heap.size = B0 := ⟨_, rfl⟩
      have HBO := Lib.hid hbo
      have HOW0 : Hid (OwnS wo w1.heap.size (.slice (some ⟨gh, 0, none⟩) F.length caph) F) := Lib.hid (own_turn HOWN.out (Turn.of_below' (S := fun _ => False) hbo) (fun _ _ h => h))
      have HCO : Hid (∀ j (hj : j < F.length), wo.cell? ⟨gh, j, none⟩ = some (.string F[j])) := Lib.hid fun j hj => (HBO.out.cell (p := ⟨gh, j, none⟩) hgh).trans (HCF.out j hj)
      have HSTO := Lib.hid (HST.out.below hbo)
      have HKO := Lib.hid (HKP.out.trans (Kp.of hbo hBr))
      have hBo : w1.heap.size ≤ wo.heap.size := Nat.le_trans hBr hbo.size
      have HWO := Lib.hid hwo
      rw [hB0] at b0 b2 b3 ⊢
      clear hwo hbo hob c0 c1 c2 c3 c4 c5 c6 c7 c8 HCF HBO HOWN HST HKP
      go_loopw [8, 9] (fun b c wq => ∃ j : Nat, j ≤ F.length ∧ c = .int .i64 j ∧ b = .bool (hasB f (F.take j)) ∧ Below wo.heap.size wo wq) (fun _ c _ => F.length - (intOf c).toNat)
      case atStart => rw [HWO.out]; exact ⟨0, Nat.zero_le _, rfl, rfl, Below.refl _ _⟩
      case round =>
        obtain ⟨j, hj, rfl, rfl, hbq⟩ := hrel
        have HBQ := Lib.hid hbq
        have q0 := below_cell hbq b0
        have q2 := below_cell hbq b2
        have q3 := below_cell hbq b3
        have hBq : w1.heap.size ≤ wr.heap.size := Nat.le_trans hBo hbq.size
        clear hbq
        by_cases hjl : j < F.length
        · have q1 := below_cell HBQ.out (HCO.out j hjl)
          have HT := Lib.hid (has_take F f j hjl)
          generalize F[j] = y at *
          have h0j : (0 : Int) ≤ (j : Int) := by omega
          have hji : (j : Int) < (F.length : Int) := by omega
          cases hb : hasB f (F.take j)
          · have HBB := Lib.hid hb
            clear hb
            go_wp2_with fail
            go_quiet (fail)
            go_wp2
            exact ⟨⟨j + 1, by omega, by simp, by rw [HT.out, HBB.out, beq_ba]; rfl, below_drewN HBQ.out _⟩, by simp [intOf]; omega⟩
          · have HBB := Lib.hid hb
            clear hb
            go_wp2_with fail
            go_quiet (fail)
            go_wp2
            exact ⟨⟨j + 1, by omega, by simp, by rw [HT.out, HBB.out]; rfl, below_drewN HBQ.out _⟩, by simp [intOf]; omega⟩
        · have hjj : j = F.length := by omega
          have hft : hasB f (F.take j) = hasB f F := by rw [hjj, List.take_length]
          rw [hft]
          have HSTW := Lib.hid (HSTO.out.below HBQ.out)
          have HKW := Lib.hid (HKO.out.trans (Kp.of HBQ.out hBo))
          have HOW : Hid (∀ W : World, Below wr.heap.size wr W → OwnS W w1.heap.size (.slice (some ⟨gh, 0, none⟩) F.length caph) F) := Lib.hid fun W hb => own_turn (own_turn HOW0.out (Turn.of_below' (S := fun _ => False) HBQ.out) (fun _ _ h => h)) (Turn.of_below' (S := fun _ => False) hb) (fun _ _ h => h)
          have HLEN : F.length ≤ 1000000000 := by omega
          have HLEN2 : ∀ F' : List ByteArray, F'.length ≤ 9 → F'.length ≤ 1000000000 := fun F' h => by omega
          clear hft HSTO HKO HOW0
          cases hfb : filterB f
          · have HASK : Hid (dAsk [(1, F, [])] 1 f on = (1, [(1, F, [])])) := Lib.hid (by rw [ask_one]; simp [hfb])
            go_wp2_with (first | (go_at_call 29; refine (rfilter_any f _ (by omega)).mono ?_; rw [hfb]; rintro e w5 ⟨rfl, hb5⟩; have d0 := below_cell hb5 q0; have d2 := below_cell hb5 q2; have d3 := below_cell hb5 q3; have hB5 := Nat.le_trans hBq hb5.size) | (go_at_call 25; refine (ask_kt (HSTW.out.below hb5) hB5 1 f on (by omega) (by omega)).mono ?_; rw [HASK.out]; rintro e w6 ⟨rfl, s6, k6, t6⟩; have hnd := not_dull_int (w := w5) d0; have e2 := k6.cell d2 hnd; have e3 := k6.cell d3 hnd; have ho6 := Kt.own (HOW.out _ hb5) t6 (by decide); have hB6 := Nat.le_trans hB5 k6.size; have hb7 := Below.refl w6.heap.size w6; have ho7 := ho6; have hn7 := HNN.out) | (go_at_call 22; refine (filters_st (s6.below hb7) 1 (by omega)).mono ?_; rw [fil_one]; rintro e w8 ⟨⟨v8, rfl, ho8⟩, hb8⟩) | (go_at_call 32; refine (same_any _ _ _ _ _ (OwnS.rat ho8) (((OwnS.rat ho7).below hb8).mono hb8.size) HLEN HLEN).mono ?_; rw [dec_self']; rintro e w9 ⟨rfl, hb9⟩))
            have hB7 := Nat.le_trans hB6 hb7.size
            have hB8 := Nat.le_trans hB7 hb8.size
            refine ⟨⟨k + 1, F, by omega, by simp, ((s6.below hb7).below hb8).below hb9, own_turn (own_turn ho7 (Turn.of_below' (S := fun _ => False) hb8) (fun _ _ h => h)) (Turn.of_below' (S := fun _ => False) hb9) (fun _ _ h => h), hn7, ((((HKW.out.trans (Kp.of hb5 hBq)).trans k6).trans (Kp.of hb7 hB6)).trans (Kp.of hb8 hB7)).trans (Kp.of hb9 hB8)⟩, by simp [intOf]; omega⟩
          · cases on
            · cases hh : hasB f F
              · have HASK : Hid (dAsk [(1, F, [])] 1 f false = (8, [(1, F, [])])) := Lib.hid (by rw [ask_one]; simp [hfb, hh])
                go_wp2_with (first | (go_at_call 29; refine (rfilter_any f _ (by omega)).mono ?_; rw [hfb]; rintro e w5 ⟨rfl, hb5⟩; have d0 := below_cell hb5 q0; have d2 := below_cell hb5 q2; have d3 := below_cell hb5 q3; have hB5 := Nat.le_trans hBq hb5.size) | (go_at_call 25; refine (ask_kt (HSTW.out.below hb5) hB5 1 f false (by omega) (by omega)).mono ?_; rw [HASK.out]; rintro e w6 ⟨rfl, s6, k6, t6⟩; have hnd := not_dull_int (w := w5) d0; have e2 := k6.cell d2 hnd; have e3 := k6.cell d3 hnd; have ho6 := Kt.own (HOW.out _ hb5) t6 (by decide); have hB6 := Nat.le_trans hB5 k6.size; have hb7 := Below.refl w6.heap.size w6; have ho7 := ho6; have hn7 := HNN.out) | (go_at_call 22; refine (filters_st (s6.below hb7) 1 (by omega)).mono ?_; rw [fil_one]; rintro e w8 ⟨⟨v8, rfl, ho8⟩, hb8⟩) | (go_at_call 32; refine (same_any _ _ _ _ _ (OwnS.rat ho8) (((OwnS.rat ho7).below hb8).mono hb8.size) HLEN HLEN).mono ?_; rw [dec_self']; rintro e w9 ⟨rfl, hb9⟩))
                have hB7 := Nat.le_trans hB6 hb7.size
                have hB8 := Nat.le_trans hB7 hb8.size
                refine ⟨⟨k + 1, F, by omega, by simp, ((s6.below hb7).below hb8).below hb9, own_turn (own_turn ho7 (Turn.of_below' (S := fun _ => False) hb8) (fun _ _ h => h)) (Turn.of_below' (S := fun _ => False) hb9) (fun _ _ h => h), hn7, ((((HKW.out.trans (Kp.of hb5 hBq)).trans k6).trans (Kp.of hb7 hB6)).trans (Kp.of hb8 hB7)).trans (Kp.of hb9 hB8)⟩, by simp [intOf]; omega⟩
              · have HASK : Hid (dAsk [(1, F, [])] 1 f false = (0, [(1, F.filter fun x => decide (x ≠ f), [])])) := Lib.hid (by rw [ask_one]; simp [hfb, hh])
                go_wp2_with (first | (go_at_call 29; refine (rfilter_any f _ (by omega)).mono ?_; rw [hfb]; rintro e w5 ⟨rfl, hb5⟩; have d0 := below_cell hb5 q0; have d2 := below_cell hb5 q2; have d3 := below_cell hb5 q3; have hB5 := Nat.le_trans hBq hb5.size) | (go_at_call 25; refine (ask_kt (HSTW.out.below hb5) hB5 1 f false (by omega) (by omega)).mono ?_; rw [HASK.out]; rintro e w6 ⟨rfl, s6, k6, t6⟩; have hnd := not_dull_int (w := w5) d0; have e2 := k6.cell d2 hnd; have e3 := k6.cell d3 hnd; have ho6 := Kt.own (HOW.out _ hb5) t6 (by decide); have hB6 := Nat.le_trans hB5 k6.size) | (go_at_call 31; refine (rwithout_any _ w6.heap.size 1 F f (w6.alloc (.cells #[.string f] 9)) w1.heap.size (ho6.alloc _) HNN.out (by omega) (cell_arr (World.alloc_heap_new w6 _) 0)).mono ?_; rintro e w7 ⟨⟨v7, rfl, ho7', hn7⟩, hb7'⟩; have hb7 : Below w6.heap.size w6 w7 := (below_al (Below.refl _ _) _).trans (hb7'.mono (by simp)); have ho7 := own_weaken ho7' (Nat.le_trans hB6 (by rw [World.size_alloc]; exact Nat.le_succ _))) | (go_at_call 22; refine (filters_st (s6.below hb7) 1 (by omega)).mono ?_; rw [fil_one]; rintro e w8 ⟨⟨v8, rfl, ho8⟩, hb8⟩) | (go_at_call 32; refine (same_any _ _ _ _ _ (OwnS.rat ho8) (((OwnS.rat ho7).below hb8).mono hb8.size) (Nat.le_trans (List.length_filter_le _ _) HLEN) (Nat.le_trans (List.length_filter_le _ _) HLEN)).mono ?_; rw [dec_self']; rintro e w9 ⟨rfl, hb9⟩))
                have hB7 := Nat.le_trans hB6 hb7.size
                have hB8 := Nat.le_trans hB7 hb8.size
                refine ⟨⟨k + 1, F.filter fun x => decide (x ≠ f), by omega, by simp, ((s6.below hb7).below hb8).below hb9, own_turn (own_turn ho7 (Turn.of_below' (S := fun _ => False) hb8) (fun _ _ h => h)) (Turn.of_below' (S := fun _ => False) hb9) (fun _ _ h => h), hn7, ((((HKW.out.trans (Kp.of hb5 hBq)).trans k6).trans (Kp.of hb7 hB6)).trans (Kp.of hb8 hB7)).trans (Kp.of hb9 hB8)⟩, by simp [intOf]; omega⟩
            · cases hh : hasB f F
              · by_cases h8 : F.length = 8
                · have HASK : Hid (dAsk [(1, F, [])] 1 f true = (7, [(1, F, [])])) := Lib.hid (by rw [ask_one]; simp [hfb, hh, h8])
                  have h8q : ((F.length : Int) == 8) = true := by simp; omega
                  clear h8
                  go_wp2_with (first | (go_at_call 29; refine (rfilter_any f _ (by omega)).mono ?_; rw [hfb]; rintro e w5 ⟨rfl, hb5⟩; have d0 := below_cell hb5 q0; have d2 := below_cell hb5 q2; have d3 := below_cell hb5 q3; have hB5 := Nat.le_trans hBq hb5.size) | (go_at_call 25; refine (ask_kt (HSTW.out.below hb5) hB5 1 f true (by omega) (by omega)).mono ?_; rw [HASK.out]; rintro e w6 ⟨rfl, s6, k6, t6⟩; have hnd := not_dull_int (w := w5) d0; have e2 := k6.cell d2 hnd; have e3 := k6.cell d3 hnd; have ho6 := Kt.own (HOW.out _ hb5) t6 (by decide); have hB6 := Nat.le_trans hB5 k6.size; have hb7 := Below.refl w6.heap.size w6; have ho7 := ho6; have hn7 := HNN.out) | (go_at_call 22; refine (filters_st (s6.below hb7) 1 (by omega)).mono ?_; rw [fil_one]; rintro e w8 ⟨⟨v8, rfl, ho8⟩, hb8⟩) | (go_at_call 32; refine (same_any _ _ _ _ _ (OwnS.rat ho8) (((OwnS.rat ho7).below hb8).mono hb8.size) HLEN HLEN).mono ?_; rw [dec_self']; rintro e w9 ⟨rfl, hb9⟩))
                  have hB7 := Nat.le_trans hB6 hb7.size
                  have hB8 := Nat.le_trans hB7 hb8.size
                  refine ⟨⟨k + 1, F, by omega, by simp, ((s6.below hb7).below hb8).below hb9, own_turn (own_turn ho7 (Turn.of_below' (S := fun _ => False) hb8) (fun _ _ h => h)) (Turn.of_below' (S := fun _ => False) hb9) (fun _ _ h => h), hn7, ((((HKW.out.trans (Kp.of hb5 hBq)).trans k6).trans (Kp.of hb7 hB6)).trans (Kp.of hb8 hB7)).trans (Kp.of hb9 hB8)⟩, by simp [intOf]; omega⟩
                · have HASK : Hid (dAsk [(1, F, [])] 1 f true = (0, [(1, insF f F, [])])) := Lib.hid (by rw [ask_one]; rw [if_neg (by simp [hfb]), if_pos rfl, if_neg (by simp [hh]), if_neg (by omega)])
                  have h8q : ((F.length : Int) == 8) = false := by simp; omega
                  clear h8
                  go_wp2_with (first | (go_at_call 29; refine (rfilter_any f _ (by omega)).mono ?_; rw [hfb]; rintro e w5 ⟨rfl, hb5⟩; have d0 := below_cell hb5 q0; have d2 := below_cell hb5 q2; have d3 := below_cell hb5 q3; have hB5 := Nat.le_trans hBq hb5.size) | (go_at_call 25; refine (ask_kt (HSTW.out.below hb5) hB5 1 f true (by omega) (by omega)).mono ?_; rw [HASK.out]; rintro e w6 ⟨rfl, s6, k6, t6⟩; have hnd := not_dull_int (w := w5) d0; have e2 := k6.cell d2 hnd; have e3 := k6.cell d3 hnd; have ho6 := Kt.own (HOW.out _ hb5) t6 (by decide); have hB6 := Nat.le_trans hB5 k6.size) | (go_at_call 30; refine (rinsert_any _ F f w6 w1.heap.size ho6 HNN.out HFS.out (hasB_not.1 hh) (by omega) (by omega) HFZ.out).mono ?_; rintro e w7 ⟨⟨v7, rfl, ho7', hn7⟩, hb7⟩; have e37 := below_cell hb7 e3; have ho7 := own_weaken ho7' hB6) | (go_at_call 22; refine (filters_st (s6.below hb7) 1 (by omega)).mono ?_; rw [fil_one]; rintro e w8 ⟨⟨v8, rfl, ho8⟩, hb8⟩) | (go_at_call 32; refine (same_any _ _ _ _ _ (OwnS.rat ho8) (((OwnS.rat ho7).below hb8).mono hb8.size) (by rw [insF_length]; omega) (by rw [insF_length]; omega)).mono ?_; rw [dec_self']; rintro e w9 ⟨rfl, hb9⟩))
                  have hB7 := Nat.le_trans hB6 hb7.size
                  have hB8 := Nat.le_trans hB7 hb8.size
                  refine ⟨⟨k + 1, insF f F, by omega, by simp, ((s6.below hb7).below hb8).below hb9, own_turn (own_turn ho7 (Turn.of_below' (S := fun _ => False) hb8) (fun _ _ h => h)) (Turn.of_below' (S := fun _ => False) hb9) (fun _ _ h => h), hn7, ((((HKW.out.trans (Kp.of hb5 hBq)).trans k6).trans (Kp.of hb7 hB6)).trans (Kp.of hb8 hB7)).trans (Kp.of hb9 hB8)⟩, by simp [intOf]; omega⟩
              · have HASK : Hid (dAsk [(1, F, [])] 1 f true = (9, [(1, F, [])])) := Lib.hid (by rw [ask_one]; simp [hfb, hh])
                go_wp2_with (first | (go_at_call 29; refine (rfilter_any f _ (by omega)).mono ?_; rw [hfb]; rintro e w5 ⟨rfl, hb5⟩; have d0 := below_cell hb5 q0; have d2 := below_cell hb5 q2; have d3 := below_cell hb5 q3; have hB5 := Nat.le_trans hBq hb5.size) | (go_at_call 25; refine (ask_kt (HSTW.out.below hb5) hB5 1 f true (by omega) (by omega)).mono ?_; rw [HASK.out]; rintro e w6 ⟨rfl, s6, k6, t6⟩; have hnd := not_dull_int (w := w5) d0; have e2 := k6.cell d2 hnd; have e3 := k6.cell d3 hnd; have ho6 := Kt.own (HOW.out _ hb5) t6 (by decide); have hB6 := Nat.le_trans hB5 k6.size; have hb7 := Below.refl w6.heap.size w6; have ho7 := ho6; have hn7 := HNN.out) | (go_at_call 22; refine (filters_st (s6.below hb7) 1 (by omega)).mono ?_; rw [fil_one]; rintro e w8 ⟨⟨v8, rfl, ho8⟩, hb8⟩) | (go_at_call 32; refine (same_any _ _ _ _ _ (OwnS.rat ho8) (((OwnS.rat ho7).below hb8).mono hb8.size) HLEN HLEN).mono ?_; rw [dec_self']; rintro e w9 ⟨rfl, hb9⟩))
                have hB7 := Nat.le_trans hB6 hb7.size
                have hB8 := Nat.le_trans hB7 hb8.size
                refine ⟨⟨k + 1, F, by omega, by simp, ((s6.below hb7).below hb8).below hb9, own_turn (own_turn ho7 (Turn.of_below' (S := fun _ => False) hb8) (fun _ _ h => h)) (Turn.of_below' (S := fun _ => False) hb9) (fun _ _ h => h), hn7, ((((HKW.out.trans (Kp.of hb5 hBq)).trans k6).trans (Kp.of hb7 hB6)).trans (Kp.of hb8 hB7)).trans (Kp.of hb9 hB8)⟩, by simp [intOf]; omega⟩
    · have hkk : k = ops.length := by omega
      subst hkk
      go_wp2_with (go_at_call 18; refine (fixed_any _).mono ?_; rintro e x2 ⟨rfl, hx2⟩)
      go_ret
      exact ⟨rfl, (HB2.out.trans (HKP.out.below.mono h01)).trans (hx2.mono (Nat.le_trans h01 hBr))⟩
end Go.Proofs.YtjabhhpmofodlaaGreatDoor
