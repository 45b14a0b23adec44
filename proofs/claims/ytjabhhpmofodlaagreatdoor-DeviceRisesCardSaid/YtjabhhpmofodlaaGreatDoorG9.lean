/- device.read. -/
import Derived.Test.YtjabhhpmofodlaaGreatDoorG8
import Derived.Deep.RegionHeld3
namespace Go.Proofs.YtjabhhpmofodlaaGreatDoor
open Go.RowKit
set_option linter.unusedVariables false
set_option linter.unusedSimpArgs false
theorem must_any (b : Bool) (w : World) : Calls Tryz.prog 65 #[.bool b] w fun e w' => e = (if b = true then .returned (.tuple #[]) else .panicked PE) ∧ w = w' := by
  cases b
  · refine (must_bad w).mono ?_
    rintro e w' ⟨rfl, rfl⟩
    exact ⟨rfl, rfl⟩
  · refine (must_ok w).mono ?_
    rintro e w' ⟨rfl, rfl⟩
    exact ⟨rfl, rfl⟩
theorem Step.join {w w1 w2 : World} {bd bm : Nat} {L L1 : List G} {D3 : List D1} (hft : ∀ i, foot bm L1 i → foot bm L i ∨ w.heap.size ≤ i) (htr : Turn (foot bm L) w w1) (k : Step w1 bd bm L1 w2 D3) : Step w bd bm L w2 D3 := by
  obtain ⟨L2, k1, rfl, k3, k4⟩ := k
  refine ⟨L2, k1, rfl, ?_, htr.trans k4 ?_⟩
  · intro i hi
    rcases k3 i hi with hi | hi
    · exact hft i hi
    · exact .inr (Nat.le_trans htr.size hi)
  · intro i hi hf
    rcases hft i hf with h | h
    · exact h
    · omega
theorem Turn.more {S : Nat → Prop} {a b c : World} (h : Turn S a b) (k : Below b.heap.size b c) : Turn S a c := h.trans (Turn.of_below' (S := fun _ => False) k) (fun _ _ h => h.elim)
set_option maxRecDepth 100000 in
set_option maxHeartbeats 8000000 in
theorem read_any (s : ByteArray) (a : Int) (bd bm : Nat) (L : List G) (w : World) (h : DevAt w bd bm L) (hI : DInv (ab L)) (hs : s.size ≤ 1000000000) :
    Calls Tryz.prog 64 #[.pointer (some ⟨bd, 0, none⟩), .string s, .int .i64 a] w (ReadPost w bd bm L (dRead (ab L) s a)) := by
  generalize hR : dRead (ab L) s a = R
  have HR := Lib.hid hR
  clear hR
  have HH := Lib.hid h
  have hlen : L.length ≤ 16 := by have := hI.len; simpa [ab] using this
  have HI := Lib.hid hI
  clear h hI
  have m1 : True := trivial
  cases hn1 : numR s a maxNum with
  | none =>
    have hR : R = none := by rw [← HR.out]; unfold dRead; rw [hn1]
    subst hR
    go_enter Tryz.func64, Tryz.ntmps64
    go_wp2_with (go_at_call 63; refine (num_bad s a maxNum _ (by omega) (by unfold maxNum; omega) hn1).mono ?_; rintro e w1 ⟨rfl, hb1⟩)
    exact ⟨rfl, rfl, Turn.of_below' hb1⟩
  | some r1 =>
    obtain ⟨id, a1⟩ := r1
    have hidr : 0 ≤ id ∧ id ≤ maxNum := by
      have := vget_ok s a
      unfold numR at hn1
      split at hn1
      · rename_i hc
        simp only [Option.some.injEq, Prod.mk.injEq] at hn1
        obtain ⟨rfl, rfl⟩ := hn1
        exact ⟨by omega, hc.2⟩
      · cases hn1
    have HN1 := Lib.hid hn1
    clear hn1
    by_cases hj : (dJoin (ab L) id).1 = 0
    · cases hn2 : numR s a1 8 with
      | none =>
        have hR : R = none := by rw [← HR.out]; unfold dRead; rw [HN1.out]; simp only; rw [if_neg (by simpa using hj), hn2]
        subst hR
        go_enter Tryz.func64, Tryz.ntmps64
        go_wp2_with (first | (go_at_call 63; go_must (first | (clear m1; refine (num_ok s a maxNum id a1 _ (by omega) (by unfold maxNum; omega) HN1.out).mono ?_; rintro e w1 ⟨rfl, hb1⟩) | (refine (num_bad s a1 8 _ (by omega) (by omega) hn2).mono ?_; rintro e w3 ⟨rfl, hb3⟩))) | (go_at_call 23; refine (join_any id bd bm L _ (HH.out.below hb1) (by omega)).mono ?_; rw [hj]; rintro e w2 ⟨rfl, hst⟩) | (go_at_call 65; refine (must_any _ _).mono ?_; rintro e w' ⟨he, rfl⟩; simp only [if_true, Bool.false_eq_true, if_false] at he; subst he))
        exact ⟨rfl, rfl, ((Turn.of_below' hb1).trans hst.turn_ (fun _ _ h => h)).more hb3⟩
      | some r2 =>
        obtain ⟨many, a2⟩ := r2
        have HN2 := Lib.hid hn2
        have hmr : 0 ≤ many ∧ many ≤ 8 := by
          have := vget_ok s a1
          unfold numR at hn2
          split at hn2
          · rename_i hc
            simp only [Option.some.injEq, Prod.mk.injEq] at hn2
            obtain ⟨rfl, rfl⟩ := hn2
            exact ⟨by omega, hc.2⟩
          · cases hn2
        clear hn2
        obtain ⟨m, hm⟩ : ∃ m : Nat, many = m := ⟨many.toNat, by omega⟩
        subst hm
        have hm8 : m ≤ 8 := by omega
        have HR2 : Hid (R = match dFils s id m (dJoin (ab L) id).2 a2 with
          | none => none
          | some (D2, a3) => if (ecut s a3).2.2 ≠ 0 then none else some (dSetM D2 id (ecut s a3).1, id, (ecut s a3).2.1)) := Lib.hid (by
            rw [← HR.out]; unfold dRead; rw [HN1.out]; simp only; rw [if_neg (by simpa using hj), HN2.out]; rfl)
        have HFJ := Lib.hid (dJoin_find hj)
        have HIJ := Lib.hid (dJoin_inv HI.out id)
        go_enter Tryz.func64, Tryz.ntmps64
        go_wp2_with (first | (go_at_call 63; go_must (first | (clear m1; refine (num_ok s a maxNum id a1 _ (by omega) (by unfold maxNum; omega) HN1.out).mono ?_; rintro e w1 ⟨rfl, hb1⟩) | (refine (num_ok s a1 8 m a2 _ (by omega) (by omega) HN2.out).mono ?_; rintro e w3 ⟨rfl, hb3⟩))) | (go_at_call 23; refine (join_any id bd bm L _ (HH.out.below hb1) (by omega)).mono ?_; rw [hj]; rintro e w2 ⟨rfl, hst⟩) | (go_at_call 65; refine (must_any _ _).mono ?_; rintro e w' ⟨he, rfl⟩; simp only [if_true, Bool.false_eq_true, if_false] at he; subst he))
        have hS0 : Step w bd bm L w3 (dJoin (ab L) id).2 := (Step.join (fun i h => .inl h) (Turn.of_below' hb1) hst).turn hb3
        clear hb1 hst hb3 HR HN1 HN2 hj HI
        generalize (dJoin (ab L) id).2 = D1' at *
        go_loopw [2, 35] (fun v c wr => ∃ (k : Nat) (Dk : List D1) (ak : Int), k ≤ m ∧ c = .int .i64 k ∧ v = .int .i64 ak ∧ Step w bd bm L wr Dk ∧ DInv Dk ∧ (∃ F, (Dk.find? fun x => x.1 == id) = some (id, F, [])) ∧ dFils s id m D1' a2 = dFils s id (m - k) Dk ak) (fun _ c _ => m - (intOf c).toNat)
        case atStart => exact ⟨0, D1', a2, Nat.zero_le _, rfl, rfl, hS0, HIJ.out, ⟨_, HFJ.out⟩, rfl⟩
        case round =>
          obtain ⟨k, Dk, ak, hk, rfl, rfl, hst, hik, hfk, hdf⟩ := hrel
          have HST := Lib.hid hst
          have HIK := Lib.hid hik
          have HFK := Lib.hid hfk
          have HDF := Lib.hid hdf
          obtain ⟨L1, hD1, hab, hft, htr⟩ := hst
          have HD1 := Lib.hid hD1
          have HAB := Lib.hid hab
          have HFT := Lib.hid hft
          have HTR := Lib.hid htr
          clear hik hfk hdf hD1 hab hft htr
          by_cases hlt : k < m
          · obtain ⟨j, hj⟩ : ∃ j, m - k = j + 1 := ⟨m - k - 1, by omega⟩
            have HDU : Hid (dFils s id (m - k) Dk ak = if (vcut s ak).2.2 ≠ 0 then none else if (dAsk Dk id (vcut s ak).1 true).1 ≠ 0 then none else dFils s id j (dAsk Dk id (vcut s ak).1 true).2 (vcut s ak).2.1) := Lib.hid (by rw [hj]; rfl)
            have hvs := vcut_size s ak
            have HC := Lib.hid (cut_any s ak · (by omega))
            generalize hcc : vcut s ak = cc at *
            obtain ⟨f, to, er⟩ := cc
            clear hcc
            simp only at HDU hvs HC
            by_cases her : er = 0
            · subst her
              have HASK : Hid (∀ W, DevAt W bd bm L1 → Calls Tryz.prog 25 #[.pointer (some ⟨bd, 0, none⟩), .int .i64 id, .string f, .bool true] W fun e w' => e = .returned (.int .i64 (dAsk Dk id f true).1) ∧ Step W bd bm L1 w' (dAsk Dk id f true).2) := Lib.hid (fun W hW => by
                have := ask_any id f true bd bm L1 W hW (by unfold maxNum at hidr; omega) (by rw [HAB.out]; exact HIK.out) (by omega)
                rw [HAB.out] at this; exact this)
              have HAF : Hid (∃ F, ((dAsk Dk id f true).2.find? fun x => x.1 == id) = some (id, F, [])) := Lib.hid (by obtain ⟨F, hF⟩ := HFK.out; exact dAsk_find hF)
              have HAI := Lib.hid (dAsk_inv HIK.out id f true (by omega))
              generalize dAsk Dk id f true = ask at *
              obtain ⟨er2, D3⟩ := ask
              simp only at HDU HASK HAF HAI
              by_cases her2 : er2 = 0
              · subst her2
                go_wp2_with (first | (go_at_call 135; refine (HC.out _).mono ?_; rintro e w4 ⟨rfl, hb4⟩) | (go_at_call 25; refine (HASK.out _ (HD1.out.below hb4)).mono ?_; rintro e w5 ⟨rfl, hst5⟩) | (go_at_call 65; refine (must_any _ _).mono ?_; rintro e w' ⟨he, rfl⟩; simp only [if_true, Bool.false_eq_true, if_false] at he; subst he))
                refine ⟨⟨k + 1, D3, to, by omega, by simp, rfl, Step.join HFT.out (HTR.out.more hb4) hst5, HAI.out, HAF.out, ?_⟩, by simp [intOf]; omega⟩
                rw [HDF.out, HDU.out, show m - (k + 1) = j by omega]; simp
              · have her2' : (er2 == 0) = false := by simpa using her2
                have hRn : R = none := by rw [HR2.out, HDF.out, HDU.out]; simp [her2]
                subst hRn
                go_wp2_with (first | (go_at_call 135; refine (HC.out _).mono ?_; rintro e w4 ⟨rfl, hb4⟩) | (go_at_call 25; refine (HASK.out _ (HD1.out.below hb4)).mono ?_; rintro e w5 ⟨rfl, hst5⟩) | (go_at_call 65; refine (must_any _ _).mono ?_; rintro e w' ⟨he, rfl⟩; simp only [if_true, Bool.false_eq_true, if_false] at he; subst he))
                exact ⟨rfl, rfl, (Step.join HFT.out (HTR.out.more hb4) hst5).turn_⟩
            · have her' : (er == 0) = false := by simpa using her
              have hRn : R = none := by rw [HR2.out, HDF.out, HDU.out]; simp [her]
              subst hRn
              go_wp2_with (first | (go_at_call 135; refine (HC.out _).mono ?_; rintro e w4 ⟨rfl, hb4⟩) | (go_at_call 65; refine (must_any _ _).mono ?_; rintro e w' ⟨he, rfl⟩; simp only [if_true, Bool.false_eq_true, if_false] at he; subst he))
              exact ⟨rfl, rfl, HTR.out.more hb4⟩
          · obtain rfl : k = m := by omega
            have HR3 : Hid (R = if (ecut s ak).2.2 ≠ 0 then none else some (dSetM Dk id (ecut s ak).1, id, (ecut s ak).2.1)) := Lib.hid (by rw [HR2.out, HDF.out, Nat.sub_self]; rfl)
            have HEF := Lib.hid (ecut_facts s ak)
            have HEC := Lib.hid (ecut_any s ak · (by omega))
            generalize ecut s ak = ec at *
            obtain ⟨ms, a4, er⟩ := ec
            simp only at HR3 HEF HEC
            by_cases her : er = 0
            · subst her
              have hR3 : R = some (dSetM Dk id ms, id, a4) := by rw [HR3.out]; simp
              subst hR3
              go_wp2_with (first | (go_at_call 136; refine (HEC.out _).mono ?_; rintro e w4 ⟨⟨v, rfl, hO⟩, hb4⟩; have hMs := hO.at_; have HMs := Lib.hid hMs; obtain ⟨p, cap, rfl, _⟩ := hMs) | (go_at_call 65; refine (must_any _ _).mono ?_; rintro e w' ⟨he, rfl⟩; simp only [if_true, Bool.false_eq_true, if_false] at he; subst he))
              have hst4 : Step w bd bm L w4 (dSetM Dk id []) := by
                obtain ⟨F, hF⟩ := HFK.out
                have := dSetM_same HIK.out.sorted hF
                simp only at this
                rw [this]; exact HST.out.turn hb4
              have hms32 : ms.length ≤ 32 := HEF.out.2.1
              clear hb4 hO hS0
              go_loopw [68] (fun c wr => ∃ k2 : Nat, k2 ≤ ms.length ∧ c = .int .i64 k2 ∧ Step w bd bm L wr (dSetM Dk id (ms.take k2)) ∧ MsAt wr wr.heap.size (.slice p ms.length cap) ms) (fun c _ => ms.length - (intOf c).toNat)
              case atStart => exact ⟨0, Nat.zero_le _, rfl, by rw [List.take_zero]; exact hst4, HMs.out⟩
              case round =>
                obtain ⟨k2, hk2, rfl, hst2, hmsa⟩ := hrel
                have HMA := Lib.hid hmsa
                have HS2 := Lib.hid hst2
                by_cases hlt2 : k2 < ms.length
                · obtain ⟨_, _, hpp, hcl⟩ := hmsa
                  obtain ⟨g, hpg, hg, hc1, hc2⟩ := hcl k2 hlt2
                  simp only [Value.slice.injEq] at hpp
                  obtain ⟨rfl, _, rfl⟩ := hpp
                  subst hpg
                  obtain ⟨L2, hD2, hab2, hft2, htr2⟩ := hst2
                  obtain ⟨F2, hF2⟩ := HFK.out
                  have hff : ((ab L2).find? fun x => x.1 == id) = some (id, F2, ms.take k2) := by rw [hab2, dSetM_find, hF2]; rfl
                  obtain ⟨y, hy1, hy2, hy3, hy4⟩ := ab_find_some hff
                  have hyM : y.M = ms.take k2 := by simp only [Prod.mk.injEq] at hy4; exact hy4.2.2.symm
                  have hPT := Lib.hid (putM_take HEF.out.1 k2 hlt2)
                  have hrng := HEF.out.2.2 ms[k2] (by simp)
                  generalize ms[k2] = x at *
                  obtain ⟨o, q⟩ := x
                  simp only at hc1 hc2 hrng hPT
                  have hgf := gfind L2 id
                  rw [hy1] at hgf
                  have HD2 := Lib.hid hD2
                  have HB2 := Lib.hid hab2
                  have HFT2 := Lib.hid hft2
                  have HTR2 := Lib.hid htr2
                  have HYM := Lib.hid hyM
                  have HGF := Lib.hid hgf
                  have HY := Lib.hid hy3
                  clear hD2 hab2 hft2 htr2 hff hy4 hyM hF2 hgf hy1 hcl
                  have hbW : Below wr.heap.size wr (wr.alloc (.cells #[.int .i64 o, .int .i64 q] 47)).drew := (below_al (Below.refl _ _) _).drew
                  have hDW := HD2.out.below hbW
                  have hgm : mget (gmap L2) id = some (.pointer (some ⟨y.bo, 0, none⟩)) := HGF.out
                  have hid64 : -9223372036854775808 ≤ id ∧ id ≤ 9223372036854775807 := by unfold maxNum at hidr; omega
                  have hcl : (wr.alloc (.cells #[.int .i64 o, .int .i64 q] 47)).drew.cell? ⟨wr.heap.size, 0, none⟩ = some (.int .i64 o) ∧ (wr.alloc (.cells #[.int .i64 o, .int .i64 q] 47)).drew.cell? ⟨wr.heap.size, 1, none⟩ = some (.int .i64 q) := ⟨cell_arr (World.alloc_heap_new wr _) 0, cell_arr (World.alloc_heap_new wr _) 1⟩
                  have hk0 : Hid (_ ∧ _ ∧ _ ∧ _ ∧ _) := Lib.hid ⟨hDW.bd_cell, hDW.one_cell hy2, hcl.1, hcl.2, hDW.look hid64 hgm⟩
                  obtain ⟨w6, hup, hD6, hT6⟩ := mark_put hDW hy2 o q (by omega) (by rw [HYM.out]; simp; omega)
                  have hnf : ¬ foot bm L2 wr.heap.size := fun hf => by have := HD2.out.lt _ hf; omega
                  have hblk := hT6.block wr.heap.size (by simp [World.drew]) hnf
                  have hk1 : Hid (_ ∧ _ ∧ _ ∧ _ ∧ _) := Lib.hid ⟨hD6.bd_cell, hD6.one_cell (setM_mem hy2 _), (World.cell?_of_block (a := ⟨wr.heap.size, 0, none⟩) hblk).trans hcl.1, (World.cell?_of_block (a := ⟨wr.heap.size, 1, none⟩) hblk).trans hcl.2, hD6.look (y := y) hid64 (by rw [gmap_setM]; exact hgm)⟩
                  rw [HYM.out, hPT.out] at hD6
                  have HD6 := Lib.hid hD6
                  have hbW' : Below wr.heap.size wr (wr.alloc (.cells #[.int .i64 o, .int .i64 q] 47)).drew := hbW
                  have HT6 := Lib.hid hT6
                  clear hD6 hDW hgm hcl hblk hT6
                  go_wp2_with fail
                  clear hc1 hc2
                  go_region_held3 (fun w' => w'.cell? ⟨bd, 0, none⟩ = some (.map (some bm)) ∧ w'.cell? ⟨y.bo, 1, none⟩ = some (.map (some y.bk)) ∧ w'.cell? ⟨wr.heap.size, 0, none⟩ = some (.int .i64 o) ∧ w'.cell? ⟨wr.heap.size, 1, none⟩ = some (.int .i64 q) ∧ (Instr.lookup 119 (.map (some bm)) (.int .i64 id) false).run Tryz.prog w' = .ok (.pointer (some ⟨y.bo, 0, none⟩)) w') (first | exact hk0.out | exact hk1.out) (first | fail)
                  go_wp2_with fail
                  refine ⟨⟨k2 + 1, by omega, by simp, Step.join HFT2.out (HTR2.out.more hbW') ⟨_, HD6.out, ?_, fun i h => .inl (foot_setM h), HT6.out⟩, ?_⟩, by simp [intOf]; omega⟩
                  · rw [ab_setM, HB2.out, HY.out, dSetM_dSetM]
                  · exact (((HMA.out.below hbW').mono hbW'.size).turn HT6.out (HD2.out.below hbW').dull).mono HT6.out.size
                · have hkk : k2 = ms.length := by omega
                  subst hkk
                  go_wp2_with fail
                  go_ret2
                  exact ⟨rfl, by have := HS2.out; rw [List.take_length] at this; exact this⟩
            · have her' : (er == 0) = false := by simpa using her
              have hRn : R = none := by rw [HR3.out]; simp [her]
              subst hRn
              go_wp2_with (first | (go_at_call 136; refine (HEC.out _).mono ?_; rintro e w4 ⟨⟨v, rfl, hO⟩, hb4⟩) | (go_at_call 65; refine (must_any _ _).mono ?_; rintro e w' ⟨he, rfl⟩; simp only [if_true, Bool.false_eq_true, if_false] at he; subst he))
              exact ⟨rfl, rfl, HTR.out.more hb4⟩
    · have hR : R = none := by rw [← HR.out]; unfold dRead; rw [HN1.out]; simp only; rw [if_pos hj]
      subst hR
      have hj' : ((dJoin (ab L) id).1 == 0) = false := by simpa using hj
      go_enter Tryz.func64, Tryz.ntmps64
      go_wp2_with (first | (go_at_call 63; refine (num_ok s a maxNum id a1 _ (by omega) (by unfold maxNum; omega) HN1.out).mono ?_; rintro e w1 ⟨rfl, hb1⟩) | (go_at_call 23; refine (join_any id bd bm L _ (HH.out.below hb1) (by omega)).mono ?_; rintro e w2 ⟨rfl, hst⟩) | (go_at_call 65; refine (must_any _ _).mono ?_; rintro e w' ⟨he, rfl⟩; simp only [if_true, Bool.false_eq_true, if_false] at he; subst he))
      exact ⟨rfl, rfl, (Turn.of_below' hb1).trans hst.turn_ (fun _ _ h => h)⟩
end Go.Proofs.YtjabhhpmofodlaaGreatDoor
