/- rivuletlaw19.DeviceSaves. -/
import Derived.Test.YtjabhhpmofodlaaGreatDoorH3
import Derived.Deep.RegionHeld3
namespace Go.Proofs.YtjabhhpmofodlaaGreatDoor
open Go.RowKit
set_option linter.unusedVariables false
set_option linter.unusedSimpArgs false
theorem OpsAt.below {w W : World} {v : Value} {l : List Op} (h : OpsAt w w.heap.size v l) (hb : Below w.heap.size w W) : OpsAt W W.heap.size v l := by
  obtain ⟨p, cap, rfl, hc⟩ := h
  refine ⟨p, cap, rfl, fun j hj => ?_⟩
  obtain ⟨g, o, hp, hg, hcl⟩ := hc j hj
  exact ⟨g, o, hp, Nat.lt_of_lt_of_le hg hb.size, fun i u hu => (hb.cell (p := ⟨g, o + j * 9 + i, none⟩) hg).trans (hcl i u hu)⟩
theorem own_int_cell {w : World} {base : Nat} {v : Value} {l : List Int} (h : OwnI w base v l) : RAt w w.heap.size v (ints l) := own_at h
theorem rat_kp {B : Nat} {w w' : World} {v : Value} {l : List Int} (h : RAt w w.heap.size v (ints l)) (hk : Kp B w w') : RAt w' w'.heap.size v (ints l) := by
  obtain ⟨p, cap, rfl, hc⟩ := h
  refine ⟨p, cap, rfl, fun j hj => ?_⟩
  obtain ⟨g, hp, hg, hcl⟩ := hc j hj
  refine ⟨g, hp, Nat.lt_of_lt_of_le hg hk.size, hk.cell hcl ?_⟩
  have hj' : j < l.length := by simpa [ints] using hj
  have e : (ints l)[j] = .int .i64 l[j] := by simp [ints]
  rw [e] at hcl
  exact not_dull_int hcl
def cE5 (o s : Int) (t l : ByteArray) (k : Int) : Obj := .cells #[.int .i64 o, .int .i64 s, .string t, .string l, .int .i64 k] 37
theorem cE5_cells {w : World} {b : Nat} {o s k : Int} {t l : ByteArray} (h : w.heap[b]? = some (cE5 o s t l k)) : w.cell? ⟨b, 0, none⟩ = some (.int .i64 o) ∧ w.cell? ⟨b, 1, none⟩ = some (.int .i64 s) ∧ w.cell? ⟨b, 2, none⟩ = some (.string t) ∧ w.cell? ⟨b, 3, none⟩ = some (.string l) ∧ w.cell? ⟨b, 4, none⟩ = some (.int .i64 k) :=
  ⟨cell_arr h 0, cell_arr h 1, cell_arr h 2, cell_arr h 3, cell_arr h 4⟩
theorem cE5_keep {B : Nat} {w w' : World} {b : Nat} {o s k : Int} {t l : ByteArray} (h : w.heap[b]? = some (cE5 o s t l k)) (hk : Kp B w w') : w'.heap[b]? = some (cE5 o s t l k) :=
  (hk.keep b (Array.getElem?_eq_some_iff.1 h).1 (not_dull_int (cE5_cells h).1)).trans h
theorem cE5_set {w : World} {b : Nat} {o s k : Int} {t l t' l' : ByteArray} (h : w.heap[b]? = some (cE5 o s t l k)) : ((w.setCell ⟨b, 2, none⟩ (.string t')).setCell ⟨b, 3, none⟩ (.string l')).heap[b]? = some (cE5 o s t' l' k) := by
  rw [heap_setCell_same (heap_setCell_same h _) _]; rfl
theorem dOffer_length {D : List D1} (h : DInv D) (e : Ev) : (dOffer D e).1.length ≤ 16 := by
  unfold dOffer
  have := h.len
  split
  · have h1 := List.length_filter_le (fun x : D1 => takesB x.2.1 x.2.2 e) D
    simp only [List.length_map]; omega
  · simp
set_option maxRecDepth 100000 in
set_option maxHeartbeats 8000000 in
theorem saves_any (v : Value) (l : List Op) (e : Ev) (w : World) (hv : OpsAt w w.heap.size v l) (hl : l.length ≤ 9223372036854775807) (hw : ∀ o ∈ l, OpWf o) (het : e.t.size ≤ 9223372036854775807) (hel : e.l.size ≤ 9223372036854775807) :
    Calls Tryz.prog 6 #[v, evV e] w fun r w' => r = .returned (.bool true) ∧ Below w.heap.size w w' := by
  obtain ⟨eo, es, et, el, ek⟩ := e
  unfold evV
  simp only at het hel ⊢
  obtain ⟨W, hW⟩ : ∃ W, w.alloc (.cells #[.int .i64 eo, .int .i64 es, .string et, .string el, .int .i64 ek] 37) = W := ⟨_, rfl⟩
  have hWb : Below w.heap.size w W := by rw [← hW]; exact below_al (Below.refl _ _) _
  have hvW := hv.below hWb
  have HCUT := Lib.hid (cut_ops_any v l W hvW hl fun o ho => ⟨(hw o ho).2.2.1, (hw o ho).2.2.2.1, (hw o ho).2.2.2.2⟩)
  have heW : W.heap[w.heap.size]? = some (cE5 eo es et el ek) := by rw [← hW]; exact World.alloc_heap_new w _
  have HEW := Lib.hid heW
  have HWB := Lib.hid hWb
  clear heW hWb
  go_enter Tryz.func6, Tryz.ntmps6
  go_wp2_with (first | (go_at_call 19; refine HCUT.out.mono ?_; rintro r w1 ⟨v1, rfl, hr1, hb1⟩) | (go_at_call 20; refine (new_st _).mono ?_; rintro r w2 ⟨⟨bd, bm, rfl, s2⟩, hb2⟩; have he2 := (hb2.block w.heap.size (by have := (Array.getElem?_eq_some_iff.1 HEW.out).1; have := hb1.size; omega)).trans ((hb1.block _ (Array.getElem?_eq_some_iff.1 HEW.out).1).trans HEW.out); have d2 : w2.cell? ⟨w.heap.size, 2, none⟩ = some (.string et) := (cE5_cells he2).2.2.1; have d3 : w2.cell? ⟨w.heap.size, 3, none⟩ = some (.string el) := (cE5_cells he2).2.2.2.1; have z2 : w2.frozen? ⟨w.heap.size, 2, none⟩ = false := (by unfold World.frozen?; rw [he2]; simp [cE5]); have z3 : w2.frozen? ⟨w.heap.size, 3, none⟩ = false := (by unfold World.frozen?; rw [he2]; simp [cE5]); have HE2 := Lib.hid he2; clear he2))
  obtain ⟨w3, hw3⟩ : ∃ w3, (w2.setCell ⟨w.heap.size, 2, none⟩ (.string (et.extract 0 (min (et.size : Int) 120).toNat))).setCell ⟨w.heap.size, 3, none⟩ (.string (el.extract 0 (min (el.size : Int) 120).toNat)) = w3 := ⟨_, rfl⟩
  have hmin : (et.extract 0 (min (et.size : Int) 120).toNat).size ≤ 120 := by rw [ByteArray.size_extract]; omega
  have he3 : w3.heap[w.heap.size]? = some (cE5 eo es (et.extract 0 (min (et.size : Int) 120).toNat) (el.extract 0 (min (el.size : Int) 120).toNat) ek) := by rw [← hw3]; exact cE5_set HE2.out
  have hT3 : Turn (· = w.heap.size) w2 w3 := by
    rw [← hw3]
    exact Turn.setCell (S := (· = w.heap.size)) (Turn.setCell (S := (· = w.heap.size)) (Turn.refl _ w2) (p := ⟨w.heap.size, 2, none⟩) (fun _ => rfl) _) (p := ⟨w.heap.size, 3, none⟩) (fun _ => rfl) _
  have s3 : St w1.heap.size w3 bd bm [] := s2.turn_0 hT3 (by rintro i rfl; exact ⟨_, _, (cE5_cells HE2.out).1⟩)
  have hWs : W.heap.size = w.heap.size + 1 := by rw [← hW]; simp
  have hw1s : w.heap.size < w1.heap.size := by have := hb1.size; omega
  obtain ⟨ops, p, cap, hv1, hop1, hops, hmem, hpb⟩ := script_of hr1 hw
  subst hv1
  have hop3 : OpsP w3 p ops := by
    refine (OpsP.kp hop1 (Kp.of hb2 (Nat.le_refl _))).turn hT3 ?_
    rintro g hg h0 rfl
    rcases hpb _ hg with h | h <;> omega
  have h13 : w1.heap.size ≤ w3.heap.size := Nat.le_trans hb2.size hT3.size
  have hB3 : Below w.heap.size w w3 := HWB.out.trans ((hb1.mono (by omega)).trans ((hb2.mono (by omega)).trans (hT3.below (Nat.le_trans (Nat.le_of_lt hw1s) hb2.size) (by intro i hi (e : i = _); omega))))
  have HOP := Lib.hid hop3
  have HMEM := Lib.hid hmem
  have HE3 := Lib.hid he3
  have HB3 := Lib.hid hB3
  have HK0 : Hid (Kp w1.heap.size w3 w3) := Lib.hid (Kp.refl _ _)
  have HW3 := Lib.hid hw3
  clear hw3
  clear hv hvW hW HCUT HEW hr1 hb1 hb2 s2 d2 d3 z2 z3 HE2 he3 hT3 hWs hop1 hop3 hmem hpb hB3 hl hw HWB
  have m1 : True := trivial
  have m2 : True := trivial
  go_loopw [7] (fun c wr => ∃ (k : Nat) (D : List D1), k ≤ ops.length ∧ c = .int .i64 k ∧ St w1.heap.size wr bd bm D ∧ Kp w1.heap.size w3 wr) (fun c _ => ops.length - (intOf c).toNat)
  case atStart => rw [HW3.out]; exact ⟨0, [], Nat.zero_le _, rfl, s3, HK0.out⟩
  case round =>
    obtain ⟨k, D, hk, rfl, hst, hkp⟩ := hrel
    have HKP := Lib.hid hkp
    have HST := Lib.hid hst
    have hBr : w1.heap.size ≤ wr.heap.size := Nat.le_trans h13 hkp.size
    clear hkp hst s3 HK0
    by_cases hlt : k < ops.length
    · obtain ⟨g, rfl, hc⟩ := HOP.out.kp HKP.out k hlt
      have hwf := HMEM.out ops[k] (by simp)
      generalize ops[k] = x at *
      obtain ⟨xk, xid, xf, xon, ⟨yo, ys, yt, yl, yk⟩⟩ := x
      have c0 : wr.cell? ⟨g, k * 9, none⟩ = some (.int .i64 xk) := hc 0 _ rfl
      have c1 := hc 1 _ rfl
      have c2 := hc 2 _ rfl
      have c3 := hc 3 _ rfl
      have c4 := hc 4 _ rfl
      have c5 := hc 5 _ rfl
      have c6 := hc 6 _ rfl
      have c7 := hc 7 _ rfl
      have c8 := hc 8 _ rfl
      obtain ⟨⟨i1, i2, _, _, _⟩, i3, i4⟩ := hwf
      simp only at i1 i2 i3 i4
      have hk80 : k < 80 := by omega
      clear hc
      go_wp2_with (first | (go_at_call 23; refine (join_st HST.out hBr xid).mono ?_; rintro e w4 ⟨rfl, s4, k4⟩) | (go_at_call 24; refine (leave_st HST.out hBr xid ⟨i1, i2⟩).mono ?_; rintro e w4 ⟨rfl, s4, k4⟩) | (go_at_call 26; refine (offer_st HST.out hBr ⟨yo, ys, yt, yl, yk⟩ (by simp only; omega)).mono ?_; rintro e w4 ⟨⟨v4, rfl, _⟩, s4, k4⟩))
      · exact ⟨⟨k + 1, _, by omega, by simp, s4, HKP.out.trans k4⟩, by simp [intOf]; omega⟩
      · exact ⟨⟨k + 1, _, by omega, by simp, s4, HKP.out.trans k4⟩, by simp [intOf]; omega⟩
      · go_region_held3 (fun W => W.cell? ⟨g, k * 9 + 1, none⟩ = some (.int .i64 xid) ∧ W.cell? ⟨g, k * 9 + 2, none⟩ = some (.string xf) ∧ W.cell? ⟨g, k * 9 + 3, none⟩ = some (.bool xon)) (first | exact ⟨c1, c2, c3⟩ | exact hk4.out) (first | (go_at_call 25; refine (ask_st (HST.out.below (Below.refl _ _).drew) hBr xid xf xon ⟨i1, i2⟩ (by omega)).mono ?_; rintro e w4 ⟨rfl, s4, k4⟩; have hk4 := Lib.hid (And.intro (k4.cell c1 (not_dull_int (w := wr.drew) c0)) (And.intro (k4.cell c2 (not_dull_int (w := wr.drew) c0)) (k4.cell c3 (not_dull_int (w := wr.drew) c0))))))
        go_wp2_with fail
        exact ⟨⟨k + 1, _, by omega, by simp, s4, (HKP.out.trans (Kp.of (Below.refl _ _).drew hBr)).trans k4⟩, by simp [intOf]; omega⟩
      · exact ⟨⟨k + 1, _, by omega, by simp, s4, HKP.out.trans k4⟩, by simp [intOf]; omega⟩
    · have hkk : k = ops.length := by omega
      have heR := (HKP.out.keep w.heap.size (Array.getElem?_eq_some_iff.1 HE3.out).1 (not_dull_int (cE5_cells HE3.out).1)).trans HE3.out
      have HER := Lib.hid heR
      have hI := HST.out.inv
      have HLS := Lib.hid (dLoad_save hI)
      have hsz := dSave_size hI
      have HI := Lib.hid hI
      have HKK := Lib.hid hkk
      clear heR hI hkk
      go_wp2_with (first | (go_at_call 17; go_must (first | (clear m1; refine (save_st HST.out).mono ?_; rintro e w4 ⟨rfl, hb4⟩) | (refine (save_st hc6).mono ?_; rintro e w6 ⟨rfl, hb6⟩))) | (go_at_call 14; have hl1 := load_any (dSave D) w4 hsz; rw [HLS.out] at hl1; refine hl1.mono ?_; clear hl1; rintro e w5 ⟨⟨bd2, bm2, L2, rfl, hD2, hab2, hbd2, hft2⟩, hb5⟩; have htw := Two.of_load (HST.out.below hb4) hb5 hD2 hab2 hbd2 hft2 (Nat.le_trans hBr hb4.size) HI.out; have HTW := Lib.hid htw; have hc6 := htw.swap.st; clear htw hD2 hab2 hbd2 hft2))
      have hw4 := hb4.size
      have hw5 := hb5.size
      have hw6 := hb6.size
      have hB6 : w1.heap.size ≤ w6.heap.size := by omega
      have he6 := (hb6.block _ (by have := (Array.getElem?_eq_some_iff.1 HER.out).1; omega)).trans ((hb5.block _ (by have := (Array.getElem?_eq_some_iff.1 HER.out).1; omega)).trans ((hb4.block _ (Array.getElem?_eq_some_iff.1 HER.out).1).trans HER.out))
      have HT6 := Lib.hid ((HTW.out.below hb6).swap.below (Below.refl _ _).drew)
      have HK6 := Lib.hid (HKP.out.below.trans ((hb4.mono hBr).trans ((hb5.mono (by omega)).trans (hb6.mono (by omega)))))
      have HC6 := Lib.hid (cE5_cells (w := w6.drew) he6)
      have HE6 : Hid (w6.drew.heap[w.heap.size]? = some (cE5 eo es (et.extract 0 (min (et.size : Int) 120).toNat) (el.extract 0 (min (el.size : Int) 120).toNat) ek)) := Lib.hid he6
      generalize (et.extract 0 (min (et.size : Int) 120).toNat) = ct at *
      generalize (el.extract 0 (min (el.size : Int) 120).toNat) = cl at *
      clear hb4 hb5 hb6 hc6 he6 HLS HTW HER HST HKP
      go_region_held3 (fun W => W.cell? ⟨w.heap.size, 0, none⟩ = some (.int .i64 eo) ∧ W.cell? ⟨w.heap.size, 1, none⟩ = some (.int .i64 es) ∧ W.cell? ⟨w.heap.size, 2, none⟩ = some (.string ct) ∧ W.cell? ⟨w.heap.size, 3, none⟩ = some (.string cl) ∧ W.cell? ⟨w.heap.size, 4, none⟩ = some (.int .i64 ek)) (first | exact HC6.out | exact HC7.out | exact HC8.out) (first | (go_at_call 26; go_must (first | (clear m2; refine (HT6.out.offer hB6 ⟨eo, es, ct, cl, ek⟩ (by simp only; omega)).mono ?_; rintro e w7 ⟨⟨v7, rfl, ho7⟩, t7, k7⟩; have HT7 := Lib.hid t7; have HC7 := Lib.hid (cE5_cells (cE5_keep HE6.out k7)); have HE7 := Lib.hid (cE5_keep HE6.out k7); have hB7 := Nat.le_trans hB6 k7.size; clear t7) | (refine (HT7.out.swap.offer hB7 ⟨eo, es, ct, cl, ek⟩ (by simp only; omega)).mono ?_; rintro e w8 ⟨⟨v8, rfl, ho8⟩, t8, k8⟩; have HT8 := Lib.hid t8; have HC8 := Lib.hid (cE5_cells (cE5_keep HE7.out k8)); clear t8))))
      have hr7 := rat_kp (own_at ho7) k8
      have hr8 : RAt w8 w8.heap.size v8 (ints (dOffer D ⟨eo, es, ct, cl, ek⟩).1) := own_at ho8
      have HB8 := Lib.hid (HB3.out.trans ((HK6.out.drew).trans (k7.below.trans k8.below) |>.mono (Nat.le_of_lt hw1s)))
      have hw8 : w.heap.size ≤ w8.heap.size := by have := k7.size; have := k8.size; simp at *; omega
      have hRl := dOffer_length HI.out ⟨eo, es, ct, cl, ek⟩
      generalize hR : (dOffer D ⟨eo, es, ct, cl, ek⟩).1 = R at *
      have hsum : (dSave (dOffer D ⟨eo, es, ct, cl, ek⟩).2).size ≤ 1000000000 := dSave_size HT8.out.inv
      generalize hD' : (dOffer D ⟨eo, es, ct, cl, ek⟩).2 = D' at *
      have m3 : True := trivial
      clear hR hD' ho7 ho8 HK6 HT6 HT7 HC6 HC7 HC8 HE6 HE7 k7 k8
      by_cases h0 : 0 < R.length
      · obtain ⟨g7, cap7, rfl, hg7, hc7⟩ := hr7.open_i h0
        obtain ⟨g8, cap8, rfl, hg8, hc8⟩ := hr8.open_i h0
        have HC7 := Lib.hid hc7
        have HC8 := Lib.hid hc8
        clear hc7 hc8 hr7 hr8
        go_wp2_with fail
        go_loopw [13] (fun c wr => ∃ k : Nat, k ≤ R.length ∧ c = .int .i64 k ∧ Below w8.heap.size w8 wr) (fun c _ => R.length - (intOf c).toNat)
        case atStart => exact ⟨0, Nat.zero_le _, rfl, Below.refl _ _⟩
        case round =>
          obtain ⟨j, hj, rfl, hbr⟩ := hrel
          by_cases hjl : j < R.length
          · have q7 : _ = some (Value.int .i64 R[j]) := (hbr.cell (p := ⟨g7, j, none⟩) hg7).trans (HC7.out j hjl)
            have q8 : _ = some (Value.int .i64 R[j]) := (hbr.cell (p := ⟨g8, j, none⟩) hg8).trans (HC8.out j hjl)
            generalize R[j] = x at *
            have h0k : (0 : Int) ≤ (j : Int) := by omega
            have hki : (j : Int) < (R.length : Int) := by omega
            go_wp2_with fail
            go_quiet (fail)
            go_wp2
            exact ⟨⟨j + 1, by omega, by simp, below_drewN hbr _⟩, by simp [intOf]; omega⟩
          · have hjj : j = R.length := by omega
            go_wp2_with (first | (go_at_call 17; go_must (first | (clear m3; refine (save_st (HT8.out.below hbr).swap.st).mono ?_; rintro e w9 ⟨rfl, hb9⟩) | (refine (save_st ((HT8.out.below hbr).below hb9).st).mono ?_; rintro e w10 ⟨rfl, hb10⟩))) | (go_at_call 18; refine (fixed_any _).mono ?_; rintro e w11 ⟨rfl, hb11⟩))
            go_ret
            exact ⟨rfl, HB8.out.trans ((hbr.mono hw8).trans ((hb9.mono (Nat.le_trans hw8 hbr.size)).trans ((hb10.mono (Nat.le_trans hw8 (Nat.le_trans hbr.size hb9.size))).trans (hb11.mono (Nat.le_trans hw8 (Nat.le_trans hbr.size (Nat.le_trans hb9.size hb10.size)))))))⟩
      · have hR0 : R = [] := List.eq_nil_of_length_eq_zero (by omega)
        subst hR0
        obtain ⟨p7, cap7, rfl⟩ := hr7.nil_open rfl
        obtain ⟨p8, cap8, rfl⟩ := hr8.nil_open rfl
        have hbr := Below.refl w8.heap.size w8
        go_wp2_with fail
        refine wp_loop_rounds 1 ?_
        rw [rounds_succ]
        go_wp2_with (first | (go_at_call 17; go_must (first | (clear m3; refine (save_st (HT8.out.below hbr).swap.st).mono ?_; rintro e w9 ⟨rfl, hb9⟩) | (refine (save_st ((HT8.out.below hbr).below hb9).st).mono ?_; rintro e w10 ⟨rfl, hb10⟩))) | (go_at_call 18; refine (fixed_any _).mono ?_; rintro e w11 ⟨rfl, hb11⟩))
        go_ret
        exact ⟨rfl, HB8.out.trans ((hbr.mono hw8).trans ((hb9.mono (Nat.le_trans hw8 hbr.size)).trans ((hb10.mono (Nat.le_trans hw8 (Nat.le_trans hbr.size hb9.size))).trans (hb11.mono (Nat.le_trans hw8 (Nat.le_trans hbr.size (Nat.le_trans hb9.size hb10.size)))))))⟩
end Go.Proofs.YtjabhhpmofodlaaGreatDoor
