/- device.Save. -/
import Derived.Test.YtjabhhpmofodlaaGreatDoorG9
namespace Go.Proofs.YtjabhhpmofodlaaGreatDoor
open Go.RowKit
set_option linter.unusedVariables false
set_option linter.unusedSimpArgs false
def dFs (acc : ByteArray) (F : List ByteArray) : ByteArray := F.foldl (fun s f => s ++ vtext f) acc
def dOne (acc : ByteArray) (x : D1) : ByteArray := dFs (acc ++ (vput x.1 ++ vput x.2.1.length)) x.2.1 ++ marksS x.2.2
def dSave (D : List D1) : ByteArray := D.foldl dOne (vput D.length)
theorem vtext_size (f : ByteArray) : (vtext f).size ≤ 9 + f.size := by
  unfold vtext
  have := vput_size f.size
  rw [ByteArray.size_append]; omega
theorem dFs_size (F : List ByteArray) (h : ∀ f ∈ F, f.size ≤ 1000000) (acc : ByteArray) : (dFs acc F).size ≤ acc.size + F.length * 1000009 := by
  induction F generalizing acc with
  | nil => simp [dFs]
  | cons f r ih =>
    have h1 := ih (fun g hg => h g (by simp [hg])) (acc ++ vtext f)
    have h2 := vtext_size f
    have h3 := h f (by simp)
    have e : dFs acc (f :: r) = dFs (acc ++ vtext f) r := rfl
    rw [e]
    rw [ByteArray.size_append] at h1
    simp only [List.length_cons]
    omega
theorem vmks_size (ms : List Mk) (acc : ByteArray) : (ms.foldl (fun s m => s ++ vmk m) acc).size ≤ acc.size + ms.length * 18 := by
  induction ms generalizing acc with
  | nil => simp
  | cons m r ih =>
    have h1 := ih (acc ++ vmk m)
    have h2 := vput_size m.1
    have h3 := vput_size m.2
    rw [List.foldl_cons]
    simp only [ByteArray.size_append, vmk] at h1
    simp only [List.length_cons]
    simp only [vmk]
    omega
theorem marksS_size (ms : List Mk) : (marksS ms).size ≤ 585 := by
  unfold marksS
  split
  · rename_i h
    have h1 := vmks_size ms (vput ms.length)
    have h2 := vput_size ms.length
    have h3 := (sortB_facts h).2.1
    unfold vmks
    omega
  · simp [ByteArray.size]
theorem dIds_get (L : List G) (k : Nat) (hk : k < L.length) (hk' : k < (dIds (ab L)).length) : (dIds (ab L))[k] = L[k].id := by simp [dIds, ab]
set_option maxRecDepth 100000 in
set_option maxHeartbeats 8000000 in
theorem save_any (bd bm : Nat) (L : List G) (w : World) (h : DevAt w bd bm L) (hI : DInv (ab L)) :
    Calls Tryz.prog 17 #[.pointer (some ⟨bd, 0, none⟩)] w fun e w' => e = .returned (.string (dSave (ab L))) ∧ Below w.heap.size w w' := by
  have hlen : L.length ≤ 16 := by have := hI.len; simpa [ab] using this
  have hbx := h.bd_cell
  have hml := h.map.len (t := 119) Tryz.underlying119
  have hgl : (gmap L).length = L.length := by simp [gmap]
  rw [hgl] at hml
  have hal : (ab L).length = L.length := by simp [ab]
  have hdl : (dIds (ab L)).length = L.length := by simp [dIds, ab]
  have HDL := Lib.hid hdl
  have HAL := Lib.hid hal
  have HH := Lib.hid h
  have HI := Lib.hid hI
  have HKS := Lib.hid (fun k hk hk' => dIds_get L k hk hk')
  clear h hI hgl hdl hal
  generalize hks : dIds (ab L) = ks at *
  have HID : Hid (∀ W, DevAt W bd bm L → Calls Tryz.prog 33 #[.pointer (some ⟨bd, 0, none⟩)] W fun e w' => (∃ v, e = .returned v ∧ OwnI w' W.heap.size v ks) ∧ Below W.heap.size W w') := Lib.hid (fun W hW => by rw [← hks]; exact ids_any bd bm L W hW (by omega))
  clear hks
  have hvl := vput_size L.length
  by_cases h0 : 0 < ks.length
  · go_enter Tryz.func17, Tryz.ntmps17
    go_wp2_with (first | (go_at_call 75; refine (put_any _ _ (by omega) (by omega)).mono ?_; rintro e w1 ⟨rfl, hb1⟩) | (go_at_call 33; refine (HID.out _ (HH.out.below hb1)).mono ?_; rintro e w2 ⟨⟨v, rfl, hO⟩, hb2⟩; obtain ⟨g, cap, rfl, hg, hg2, hc⟩ := hO.open_ h0; have HC := Lib.hid hc; clear hc hO))
    have hb12 := below_go hb1 hb2
    have HB12 := Lib.hid hb12
    clear hb1 hb2
    go_loopw [3, 18] (fun v c wr => ∃ (k : Nat) (acc : ByteArray), k ≤ L.length ∧ c = .int .i64 k ∧ v = .string acc ∧ acc.size ≤ 9 + 8010000 * k ∧ dSave (ab L) = ((ab L).drop k).foldl dOne acc ∧ Below w2.heap.size w2 wr) (fun _ c _ => L.length - (intOf c).toNat)
    case atStart => exact ⟨0, vput L.length, Nat.zero_le _, rfl, rfl, by omega, by unfold dSave; rw [HAL.out]; rfl, Below.refl _ _⟩
    case round =>
      obtain ⟨k, acc, hk, rfl, rfl, hsz, hf, hbr⟩ := hrel
      have HF := Lib.hid hf
      clear hf
      by_cases hlt : k < L.length
      · have hk' : k < ks.length := by rw [HDL.out]; exact hlt
        have hck : wr.cell? ⟨g, k, none⟩ = some (.int .i64 ks[k]) := (hbr.cell (p := ⟨g, k, none⟩) hg).trans (HC.out k hk')
        rw [HKS.out k hlt hk'] at hck
        have hy : L[k] ∈ L := by simp
        have HX : Hid (((ab L).drop k).foldl dOne acc = ((ab L).drop (k + 1)).foldl dOne (dOne acc (L[k].id, L[k].F, L[k].M))) := Lib.hid (by
          rw [List.drop_eq_getElem_cons (by rw [HAL.out]; exact hlt)]
          simp [ab])
        have hfnd : mget (gmap L) L[k].id = some (.pointer (some ⟨L[k].bo, 0, none⟩)) := by
          rw [mget_mem (gmap_sorted HH.out)]
          exact List.mem_map.2 ⟨L[k], hy, rfl⟩
        have hXI := HI.out.xs _ (ab_mem hy)
        have hdm : Hid (dMarks (ab L) L[k].id = L[k].M) := Lib.hid (by
          unfold dMarks
          have hfa := ab_find L L[k].id
          have hfL : (L.find? fun x => x.id == L[k].id) = some L[k] := by
            cases hf : L.find? fun x => x.id == L[k].id with
            | none => rw [List.find?_eq_none] at hf; have := hf _ hy; simp at this
            | some z =>
              have hz := List.mem_of_find?_eq_some hf
              have hze : z.id = L[k].id := by have := List.find?_some hf; simpa using this
              rw [id_unique HH.out.sorted hz hy hze]
          rw [hfa, hfL]; rfl)
        have hDr := (HH.out.below HB12.out).below hbr
        generalize L[k] = y at *
        have hidr := hXI.id
        have hid64 : -9223372036854775808 ≤ y.id ∧ y.id ≤ 9223372036854775807 := by unfold maxNum at hidr; simp only at hidr; omega
        obtain ⟨vf, hob, hrf, hmf⟩ := hDr.ones y hy
        have hFl : y.F.length ≤ 8 := hXI.fl
        have hFs := Lib.hid (show ∀ f ∈ y.F, f.size ≤ 1000000 from hXI.fs)
        have HRF := Lib.hid hrf
        obtain ⟨p, fcap, rfl, _⟩ := hrf
        rw [strs_length] at hob HRF
        have HOB := Lib.hid hob
        have HDR := Lib.hid hDr
        have HFN := Lib.hid hfnd
        have hboL := (Array.getElem?_eq_some_iff.1 hob).1
        have hkeep : Hid (∀ W, Below wr.heap.size wr W → W.cell? ⟨bd, 0, none⟩ = some (.map (some bm)) ∧ W.cell? ⟨y.bo, 0, none⟩ = some (.slice p y.F.length fcap) ∧ (Instr.lookup 119 (.map (some bm)) (.int .i64 y.id) false).run Tryz.prog W = .ok (.pointer (some ⟨y.bo, 0, none⟩)) W) := Lib.hid (by
          intro W hb
          have hD := HDR.out.below hb
          refine ⟨hD.bd_cell, ?_, hD.look hid64 HFN.out⟩
          rw [cell_arr ((hb.block _ hboL).trans HOB.out)]; rfl)
        clear hob hDr hfnd hmf hXI
        have m1 : True := trivial
        have hi1 : 0 ≤ y.id := by simp only at hidr; exact hidr.1
        have hi2 : y.id ≤ 1099511627776 := by unfold maxNum at hidr; simp only at hidr; exact hidr.2
        have hvo := vput_size y.id
        have hvq := vput_size y.F.length
        have hk16 : k ≤ 16 := by omega
        have hsum : ¬ 9223372036854775807 < (vput y.id).size + (vput y.F.length).size := by omega
        have hsum2 : ¬ 9223372036854775807 < acc.size + ((vput y.id).size + (vput y.F.length).size) := by omega
        have HB0 := Lib.hid ((Below.refl wr.heap.size wr).drew)
        go_wp2_with fail
        have hwo : IntKind.u64.wrap y.id = y.id := IntWalk.u64_in _ (by omega)
        have hwq : IntKind.u64.wrap (y.F.length : Int) = y.F.length := IntWalk.u64_in _ (by omega)
        first | (go_region_held3 (fun W => W.cell? ⟨bd, 0, none⟩ = some (.map (some bm)) ∧ W.cell? ⟨y.bo, 0, none⟩ = some (.slice p y.F.length fcap) ∧ (Instr.lookup 119 (.map (some bm)) (.int .i64 y.id) false).run Tryz.prog W = .ok (.pointer (some ⟨y.bo, 0, none⟩)) W) (first | exact hkeep.out _ HB0.out | exact hkeep.out _ (HB0.out.trans hb4) | exact hkeep.out _ ((HB0.out.trans hb4).trans (hb5.mono hb4.size))) (first | (go_at_call 75; go_must (first | (clear m1; refine (put_any _ _ (by omega) (by omega)).mono ?_; rintro e w4 ⟨rfl, hb4⟩) | (refine (put_any _ _ (by omega) (by omega)).mono ?_; rintro e w5 ⟨rfl, hb5⟩))))) | skip
        all_goals
          have hb45 := (HB0.out.trans hb4).trans (hb5.mono hb4.size)
          obtain ⟨q1, q2, q3⟩ := hkeep.out w5 hb45
          have HR5 := Lib.hid (HRF.out.below hb45)
          clear hwo hwq hb4 hb5
          go_wp2_with fail
          have hacc2 : (acc ++ (vput y.id ++ vput y.F.length)).size ≤ acc.size + 18 := by simp; omega
          generalize hA2 : acc ++ (vput y.id ++ vput y.F.length) = acc2 at *
          have HA2 := Lib.hid hA2
          clear hA2 hsum hsum2
          go_loopw [3, 50] (fun v c wq => ∃ (j : Nat) (acc3 : ByteArray), j ≤ y.F.length ∧ c = .int .i64 j ∧ v = .string acc3 ∧ acc3.size ≤ acc2.size + 1000009 * j ∧ dFs acc2 y.F = dFs acc3 (y.F.drop j) ∧ Below w5.heap.size w5 wq) (fun _ c _ => y.F.length - (intOf c).toNat)
          case atStart => exact ⟨0, acc2, Nat.zero_le _, rfl, rfl, by omega, rfl, Below.refl _ _⟩
          case round =>
            obtain ⟨j, acc3, hj, rfl, rfl, hsz3, hf3, hbr3⟩ := hrel
            have HF3 := Lib.hid hf3
            clear hf3
            by_cases hlt3 : j < y.F.length
            · obtain ⟨g3, cap3, hpp, hg3, hc3⟩ := HR5.out.open_s (by omega)
              have hc3j := (hbr3.cell (p := ⟨g3, j, none⟩) (Nat.lt_of_lt_of_le hg3 hb45.size)).trans (hc3 j hlt3)
              have hfj := hFs.out y.F[j] (by simp)
              have HX3 := Lib.hid (List.drop_eq_getElem_cons hlt3)
              generalize y.F[j] = f at *
              simp only [Value.slice.injEq] at hpp
              obtain ⟨rfl, _, rfl⟩ := hpp
              have hvt := vtext_size f
              have hs3 : ¬ 9223372036854775807 < acc3.size + (vtext f).size := by omega
              clear hc3
              go_wp2_with (go_at_call 76; refine (text_any f _ (by omega)).mono ?_; rintro e w6 ⟨rfl, hb6⟩)
              refine ⟨⟨j + 1, acc3 ++ vtext f, by omega, by simp, rfl, by simp; omega, ?_, hbr3.trans (hb6.mono hbr3.size)⟩, by simp [intOf]; omega⟩
              rw [HF3.out, HX3.out]; rfl
            · have hjj : j = y.F.length := by omega
              subst hjj
              have hms := marksS_size y.M
              have hs4 : ¬ 9223372036854775807 < acc3.size + (marksS y.M).size := by omega
              have HDM : Hid (∀ W, DevAt W bd bm L → Calls Tryz.prog 21 #[.pointer (some ⟨bd, 0, none⟩), .int .i64 y.id] W fun e w' => (∃ v, e = .returned v ∧ OwnM w' W.heap.size v y.M) ∧ Below W.heap.size W w') := Lib.hid (fun W hW => by rw [← hdm.out]; exact dmarks_any y.id bd bm L W hW hid64 HI.out)
              have hD6 := (HDR.out.below hb45).below hbr3
              have hMl : y.M.length ≤ 32 := (HI.out.xs _ (ab_mem hy)).ml
              go_wp2_with (first | (go_at_call 21; refine (HDM.out _ hD6).mono ?_; rintro e w7 ⟨⟨v7, rfl, hO7⟩, hb7⟩) | (go_at_call 77; refine (marks_any v7 y.M _ hO7.at_ (by omega)).mono ?_; rintro e w8 ⟨rfl, hb8⟩))
              refine ⟨⟨k + 1, acc3 ++ marksS y.M, by omega, by simp, rfl, by simp; omega, ?_, ?_⟩, by simp [intOf]; omega⟩
              · rw [HF.out, HX.out]
                congr 1
                unfold dOne
                simp only
                rw [HA2.out, HF3.out]
                simp [dFs]
              · exact hbr.trans (((hb45.trans (hbr3.mono hb45.size)).trans ((below_go hb7 hb8).mono (by have := hb45.size; have := hbr3.size; omega))).mono hbr.size)
      · obtain rfl : k = L.length := by omega
        have hkq := HDL.out
        go_wp2
        go_ret
        exact ⟨ret_s (by rw [HF.out, List.drop_of_length_le (by rw [HAL.out]; exact Nat.le_refl _)]; rfl), HB12.out.trans (hbr.mono HB12.out.size)⟩
  · have hk0 : ks = [] := List.eq_nil_of_length_eq_zero (by omega)
    have hL0 : L = [] := List.eq_nil_of_length_eq_zero (by rw [← HDL.out, hk0]; rfl)
    subst hL0 hk0
    go_enter Tryz.func17, Tryz.ntmps17
    go_wp2_with (first | (go_at_call 75; refine (put_any _ _ (by omega) (by omega)).mono ?_; rintro e w1 ⟨rfl, hb1⟩) | (go_at_call 33; refine (HID.out _ (HH.out.below hb1)).mono ?_; rintro e w2 ⟨⟨v, rfl, hO⟩, hb2⟩; obtain ⟨p, cap, rfl⟩ := (own_at hO).nil_open rfl))
    refine wp_loop_rounds 1 ?_
    rw [rounds_succ]
    go_wp2
    go_ret
    exact ⟨rfl, below_go hb1 hb2⟩
end Go.Proofs.YtjabhhpmofodlaaGreatDoor
