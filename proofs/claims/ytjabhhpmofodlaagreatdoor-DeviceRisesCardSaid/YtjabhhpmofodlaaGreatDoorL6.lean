/- rivuletlaw19.DeviceRises. -/
import Derived.Test.YtjabhhpmofodlaaGreatDoorL5
import Derived.Test.YtjabhhpmofodlaaGreatDoorA4
import Derived.Deep.DeepCutAuto
import Derived.Deep.CutBlock
namespace Go.Proofs.YtjabhhpmofodlaaGreatDoor
open Go.RowKit
set_option linter.unusedVariables false
set_option linter.unusedSimpArgs false
theorem and3 (a : Int) : 0 ≤ bits .and .i64 a 3 ∧ bits .and .i64 a 3 ≤ 3 := by
  have h : bits .and .i64 a 3 = IntKind.i64.wrap ((BitVec.ofInt 64 a &&& BitVec.ofInt 64 3).toNat : Int) := rfl
  have h3 : (BitVec.ofInt 64 3).toNat = 3 := by decide
  have hle : (BitVec.ofInt 64 a &&& BitVec.ofInt 64 3).toNat ≤ 3 := by rw [BitVec.toNat_and, h3]; exact Nat.and_le_right
  rw [h, IntWalk.i64_in _ (by omega)]
  omega
theorem take_any {α : Type} (N : List α) (f : α → Bool) (i : Nat) (hi : i < N.length) : (N.take (i + 1)).any f = ((N.take i).any f || f N[i]) := by
  rw [List.take_add_one, List.any_append, List.getElem?_eq_getElem hi]; simp
theorem mark_take (M : List Mk) (o : Int) (j : Nat) (hj : j < M.length) : markL (M.take (j + 1)) o = if M[j].1 = o then M[j].2 else markL (M.take j) o := by
  unfold markL
  rw [List.take_add_one, List.foldl_append, List.getElem?_eq_getElem hj]; rfl
theorem rat_kps {B : Nat} {w w' : World} {v : Value} {l : List ByteArray} (h : RAt w w.heap.size v (strs l)) (hk : Kp B w w') : RAt w' w'.heap.size v (strs l) := by
  obtain ⟨p, cap, rfl, hc⟩ := h
  refine ⟨p, cap, rfl, fun j hj => ?_⟩
  obtain ⟨g, hp, hg, hcl⟩ := hc j hj
  refine ⟨g, hp, Nat.lt_of_lt_of_le hg hk.size, hk.cell hcl ?_⟩
  have hj' : j < l.length := by rwa [strs_length] at hj
  have e : (strs l)[j] = .string l[j] := by simp [strs]
  rw [e] at hcl
  exact not_dull_str hcl
def OC (W : World) (B0 : Nat) (o s : Int) (t l : ByteArray) (k : Int) : Prop := W.cell? ⟨B0, 4, none⟩ = some (.int .i64 o) ∧ W.cell? ⟨B0, 5, none⟩ = some (.int .i64 s) ∧ W.cell? ⟨B0, 6, none⟩ = some (.string t) ∧ W.cell? ⟨B0, 7, none⟩ = some (.string l) ∧ W.cell? ⟨B0, 8, none⟩ = some (.int .i64 k)
theorem OC.below {W W' : World} {B0 : Nat} {o s k : Int} {t l : ByteArray} (h : OC W B0 o s t l k) (hb : Below W.heap.size W W') : OC W' B0 o s t l k := ⟨below_cell hb h.1, below_cell hb h.2.1, below_cell hb h.2.2.1, below_cell hb h.2.2.2.1, below_cell hb h.2.2.2.2⟩
theorem OC.kp {B : Nat} {W W' : World} {B0 : Nat} {o s k : Int} {t l : ByteArray} (h : OC W B0 o s t l k) (hk : Kp B W W') : OC W' B0 o s t l k := by
  have hd := not_dull_int h.1
  exact ⟨hk.cell h.1 hd, hk.cell h.2.1 hd, hk.cell h.2.2.1 hd, hk.cell h.2.2.2.1 hd, hk.cell h.2.2.2.2 hd⟩
theorem doffer_len {D : List D1} (h : DInv D) (e : Ev) : (dOffer D e).1.length ≤ 16 := by
  unfold dOffer
  have := h.len
  split
  · have h1 := List.length_filter_le (fun x : D1 => takesB x.2.1 x.2.2 e) D
    simp only [List.length_map]; omega
  · simp
set_option maxRecDepth 100000 in
set_option maxHeartbeats 16000000 in
theorem rises_any (v : Value) (l : List Op) (id : Int) (w : World) (hv : OpsAt w w.heap.size v l) (hl : l.length ≤ 9223372036854775807) (hw : ∀ o ∈ l, OpWf o) (hid : -9223372036854775808 ≤ id ∧ id ≤ 9223372036854775807) :
    Calls Tryz.prog 4 #[v, .int .i64 id] w fun r w' => r = .returned (.bool true) ∧ Below w.heap.size w w' := by
  have HCUT := Lib.hid (cut_ops_any v l w hv hl fun o ho => ⟨(hw o ho).2.2.1, (hw o ho).2.2.2.1, (hw o ho).2.2.2.2⟩)
  have HHW := Lib.hid hw
  obtain ⟨J, hJ⟩ : ∃ J, bits .and .i64 id 3 = J := ⟨_, rfl⟩
  have hJr : -9223372036854775808 ≤ J ∧ J ≤ 9223372036854775807 := by have := and3 id; omega
  clear hv hl hw hid
  go_enter Tryz.func4, Tryz.ntmps4
  go_wp2_with (first | (go_at_call 19; refine HCUT.out.mono ?_; rintro r w1 ⟨v1, rfl, hr1, hb1⟩) | (go_at_call 20; refine (new_st _).mono ?_; rintro r w2 ⟨⟨bd, bm, rfl, s2⟩, hb2⟩; obtain ⟨ops, p, cap, hv1, hop1, hops, hmem, hpb⟩ := script_of hr1 HHW.out; subst hv1; have HOP := Lib.hid (OpsP.kp hop1 (Kp.of hb2 (Nat.le_refl _))); have HMEM := Lib.hid hmem; clear hop1 hmem hpb hr1))
  have HB2 := Lib.hid (hb1.trans (hb2.mono hb1.size))
  have h12 := hb2.size
  have h01 := hb1.size
  have HJ := Lib.hid hJ
  have HS2 := Lib.hid s2
  clear hb1 hb2 HCUT hJ s2
  have HK0 : Hid (Kp w1.heap.size w2 w2) := Lib.hid (Kp.refl _ _)
  go_loopw [7] (fun c wr => ∃ (k : Nat) (D : List D1), k ≤ ops.length ∧ c = .int .i64 k ∧ St w1.heap.size wr bd bm D ∧ Kp w1.heap.size w2 wr) (fun c _ => ops.length - (intOf c).toNat)
  case atStart => exact ⟨0, [], Nat.zero_le _, rfl, HS2.out, HK0.out⟩
  case round =>
    obtain ⟨k, D, hk, rfl, hst, hkp⟩ := hrel
    have HKP := Lib.hid hkp
    have HST := Lib.hid hst
    have hBr : w1.heap.size ≤ wr.heap.size := Nat.le_trans h12 hkp.size
    clear hkp hst HS2 HK0
    by_cases hlt : k < ops.length
    · obtain ⟨g, rfl, hc⟩ := HOP.out.kp HKP.out k hlt
      have hwf := HMEM.out ops[k] (by simp)
      generalize ops[k] = x at *
      obtain ⟨xk, xid, f, on, ⟨yo, ys, yt, yl, yk⟩⟩ := x
      have c0 : wr.cell? ⟨g, k * 9, none⟩ = some (.int .i64 xk) := hc 0 _ rfl
      have c1 := hc 1 _ rfl
      have c2 := hc 2 _ rfl
      have c3 := hc 3 _ rfl
      have c4 := hc 4 _ rfl
      have c5 := hc 5 _ rfl
      have c6 := hc 6 _ rfl
      have c7 := hc 7 _ rfl
      have c8 := hc 8 _ rfl
      obtain ⟨⟨i1, i2, _, _, i5⟩, i3, i4⟩ := hwf
      simp only at i1 i2 i3 i4 i5
      have hk80 : k < 80 := by omega
      obtain ⟨X, hX⟩ : ∃ X, bits .and .i64 xid 3 = X := ⟨_, rfl⟩
      have hXr : -9223372036854775808 ≤ X ∧ X ≤ 9223372036854775807 := by have := and3 xid; omega
      have hDI := HST.out.inv
      have HDI := Lib.hid hDI
      obtain ⟨_, hM32, hF8, hFZ⟩ := dMarks_sorted hDI J
      have HFZ := Lib.hid hFZ
      obtain ⟨wo, hwo⟩ : ∃ wo, wr.alloc (.cells #[.int .i64 xk, .int .i64 xid, .string f, .bool on, .int .i64 yo, .int .i64 ys, .string yt, .string yl, .int .i64 yk] 39) = wo := ⟨_, rfl⟩
      have hbo : Below wr.heap.size wr wo := by rw [← hwo]; exact below_al (Below.refl _ _) _
      have hob : wo.heap[wr.heap.size]? = some (.cells #[.int .i64 xk, .int .i64 xid, .string f, .bool on, .int .i64 yo, .int .i64 ys, .string yt, .string yl, .int .i64 yk] 39) := by rw [← hwo]; exact World.alloc_heap_new wr _
      obtain ⟨B0, hB0⟩ : ∃ B0, wr.heap.size = B0 := ⟨_, rfl⟩
      have b0 : wo.cell? ⟨B0, 0, none⟩ = some (.int .i64 xk) := by rw [← hB0]; exact cell_arr hob 0
      have b1 : wo.cell? ⟨B0, 1, none⟩ = some (.int .i64 xid) := by rw [← hB0]; exact cell_arr hob 1
      have b2 : wo.cell? ⟨B0, 2, none⟩ = some (.string f) := by rw [← hB0]; exact cell_arr hob 2
      have b3 : wo.cell? ⟨B0, 3, none⟩ = some (.bool on) := by rw [← hB0]; exact cell_arr hob 3
      have HOC : Hid (OC wo B0 yo ys yt yl yk) := Lib.hid (by rw [← hB0]; exact ⟨cell_arr hob 4, cell_arr hob 5, cell_arr hob 6, cell_arr hob 7, cell_arr hob 8⟩)
      have HBO := Lib.hid hbo
      have HWO := Lib.hid hwo
      have HBB := Lib.hid hB0
      obtain ⟨M, hM⟩ : ∃ M, dMarks D J = M := ⟨_, rfl⟩
      obtain ⟨F, hF⟩ : ∃ F, dFil D J = F := ⟨_, rfl⟩
      rw [hM] at hM32
      rw [hF] at hF8 HFZ
      have HMM := Lib.hid hM
      have HFF := Lib.hid hF
      have hBo : w1.heap.size ≤ wo.heap.size := Nat.le_trans hBr hbo.size
      have HXX := Lib.hid hX
      clear hc hDI hFZ hob hbo hM hF hwo hB0
      go_wp2_with fail
      rw [HWO.out, HBB.out]
      go_upto_block 2 with (first | (go_at_call 21; refine (marks_st (HST.out.below HBO.out) J hJr).mono ?_; rw [HMM.out]; rintro e w4 ⟨⟨v4, rfl, ho4⟩, hb4⟩; obtain ⟨p9, cap9, rfl, hc9⟩ := OwnM.at_ ho4) | (go_at_call 22; refine (filters_st ((HST.out.below HBO.out).below hb4) J hJr).mono ?_; rw [HFF.out]; rintro e w5 ⟨⟨v5, rfl, ho5⟩, hb5⟩; have HR5 := Lib.hid (OwnS.rat ho5); obtain ⟨p10, cap10, rfl, _⟩ := OwnS.rat ho5; have HST5 := Lib.hid (((HST.out.below HBO.out).below hb4).below hb5); have hb45 := below_go hb4 hb5; have HB45 := Lib.hid hb45; have e0 := below_cell hb45 b0; have e1 := below_cell hb45 b1; have e2 := below_cell hb45 b2; have e3 := below_cell hb45 b3; have HOC5 := Lib.hid (HOC.out.below hb45); have HM5 : Hid (∀ j (hj : j < M.length), ∃ g, p9 = some ⟨g, 0, none⟩ ∧ g < w5.heap.size ∧ w5.cell? ⟨g, j * 2, none⟩ = some (.int .i64 M[j].1) ∧ w5.cell? ⟨g, j * 2 + 1, none⟩ = some (.int .i64 M[j].2)) := Lib.hid (fun j hj => (by obtain ⟨g', h1, h2, h3, h4⟩ := hc9 j hj; exact ⟨g', h1, Nat.lt_of_lt_of_le h2 hb5.size, below_cell hb5 h3, below_cell hb5 h4⟩)); have hB5 : w1.heap.size ≤ w5.heap.size := Nat.le_trans hBo hb45.size; have HK5 := Lib.hid ((HKP.out.trans (Kp.of HBO.out hBr)).trans (Kp.of hb45 hBo)); clear ho4 hb4 hc9 ho5 hb5 hb45 b0 b1 b2 b3))
      go_cut [] (fun wx => ∃ D', St w1.heap.size wx bd bm D' ∧ Kp w1.heap.size w5 wx ∧ keptM M (dMarks D' J) = true)
      case first =>
        go_wp2_with (first | (go_at_call 23; refine (join_st HST5.out hB5 X).mono ?_; rintro e wz ⟨rfl, sz, kz⟩) | (go_at_call 24; refine (leave_st HST5.out hB5 X hXr).mono ?_; rintro e wz ⟨rfl, sz, kz⟩) | (go_at_call 25; refine (ask_st HST5.out hB5 X f on hXr (by omega)).mono ?_; rintro e wz ⟨rfl, sz, kz⟩))
        go_ways
        · go_meet
          exact ⟨_, sz, kz, by rw [dMarks_join, HMM.out]; exact keptM_refl _⟩
        · exact ⟨⟨k + 1, D, by omega, by simp, HST5.out, HK5.out⟩, by simp [intOf]; omega⟩
        · have hq : (X == J) = false := by assumption
          have hne : J ≠ X := fun e => by rw [e] at hq; simp at hq
          go_meet
          exact ⟨_, sz, kz, by rw [dMarks_leave D hne, HMM.out]; exact keptM_refl _⟩
        · go_meet
          exact ⟨_, sz, kz, by rw [dMarks_ask, HMM.out]; exact keptM_refl _⟩
        · as_aux_lemma =>
              have hqt : yt.size ≤ 1000000000 := by omega
              have hql : yl.size ≤ 9223372036854775807 := i5
              go_loopw [12, 13] (fun m c wq => ∃ j : Nat, j ≤ M.length ∧ c = .int .i64 j ∧ m = .int .i64 (markL (M.take j) yo) ∧ Below w5.heap.size w5 wq) (fun _ c _ => M.length - (intOf c).toNat)
              case atStart => exact ⟨0, Nat.zero_le _, rfl, rfl, Below.refl _ _⟩
              case round =>
                obtain ⟨j, hj, rfl, rfl, hbq⟩ := hrel
                have HBQ := Lib.hid hbq
                have q4 := below_cell hbq HOC5.out.1
                have hBq : w5.heap.size ≤ wr.heap.size := hbq.size
                clear hbq
                by_cases hjl : j < M.length
                · obtain ⟨g9, rfl, hg9, hc9, hd9⟩ := HM5.out j hjl
                  have hm9 := (HBQ.out.cell (p := ⟨g9, j * 2, none⟩) hg9).trans hc9
                  have hn9 := (HBQ.out.cell (p := ⟨g9, j * 2 + 1, none⟩) hg9).trans hd9
                  have HT := Lib.hid (mark_take M yo j hjl)
                  have hjs : (j : Int) < (M.length : Int) := by omega
                  have h0s : (0 : Int) ≤ (j : Int) := by omega
                  clear hc9 hd9
                  generalize M[j] = mm at *
                  obtain ⟨mo, ms⟩ := mm
                  simp only at hm9 hn9 HT
                  by_cases heq : mo = yo
                  · have hq : (mo == yo) = true := by simpa using heq
                    have HEQ := Lib.hid heq
                    clear heq
                    go_wp2_with fail
                    go_quiet (fail)
                    go_wp2
                    exact ⟨⟨j + 1, by omega, by simp, by rw [HT.out, if_pos HEQ.out], below_drewN HBQ.out _⟩, by simp [intOf]; omega⟩
                  · have hq : (mo == yo) = false := by simpa using heq
                    have HEQ := Lib.hid heq
                    clear heq
                    go_wp2_with fail
                    go_quiet (fail)
                    go_wp2
                    exact ⟨⟨j + 1, by omega, by simp, by rw [HT.out, if_neg HEQ.out], below_drewN HBQ.out _⟩, by simp [intOf]; omega⟩
                · have hjj : j = M.length := by omega
                  subst hjj
                  rw [List.take_length]
                  obtain ⟨mk, hmk⟩ : ∃ mk, markL M yo = mk := ⟨_, rfl⟩
                  have HMK := Lib.hid hmk
                  have HOCr := Lib.hid (HOC5.out.below HBQ.out)
                  rw [hmk]
                  clear hmk
                  have r4 := HOCr.out.1
                  have r5 := HOCr.out.2.1
                  have r6 := HOCr.out.2.2.1
                  have r7 := HOCr.out.2.2.2.1
                  have r8 := HOCr.out.2.2.2.2
                  go_wp2_with (go_at_call 26; refine (offer_st (HST5.out.below HBQ.out) (Nat.le_trans hB5 hBq) ⟨yo, ys, yt, yl, yk⟩ (by simp only; omega)).mono ?_; rintro e w6 ⟨⟨v6, rfl, ho6⟩, s6, k6⟩)
                  have hr6 : RAt w6 w6.heap.size v6 (ints (dOffer D ⟨yo, ys, yt, yl, yk⟩).1) := own_at ho6
                  have HGY := Lib.hid (fun hg => given_yes HDI.out (e := ⟨yo, ys, yt, yl, yk⟩) (j := J) hg)
                  have HGN := Lib.hid (fun hg => given_no HDI.out (e := ⟨yo, ys, yt, yl, yk⟩) (j := J) hg)
                  have HKO := Lib.hid (keptM_offer HDI.out ⟨yo, ys, yt, yl, yk⟩ J)
                  have hGl : (dOffer D ⟨yo, ys, yt, yl, yk⟩).1.length ≤ 16 := doffer_len HDI.out _
                  obtain ⟨G, hG⟩ : ∃ G, (dOffer D ⟨yo, ys, yt, yl, yk⟩).1 = G := ⟨_, rfl⟩
                  obtain ⟨DO, hDO⟩ : ∃ DO, (dOffer D ⟨yo, ys, yt, yl, yk⟩).2 = DO := ⟨_, rfl⟩
                  rw [hG] at hr6 HGY HGN hGl
                  rw [hDO] at s6 HKO
                  clear hG hDO ho6
                  obtain ⟨p6, cap6, rfl, hc6⟩ := hr6
                  have hil : (ints G).length = G.length := by simp [ints]
                  rw [hil]
                  have HC6 : Hid (∀ j (hj : j < G.length), ∃ g, p6 = some ⟨g, 0, none⟩ ∧ g < w6.heap.size ∧ w6.cell? ⟨g, j, none⟩ = some (.int .i64 G[j])) := Lib.hid fun j hj => by
                    obtain ⟨g', h1, h2, h3⟩ := hc6 j (by omega)
                    refine ⟨g', h1, h2, ?_⟩
                    rw [h3]; simp [ints]
                  have HS6 := Lib.hid s6
                  have HK6 := Lib.hid ((Kp.of HBQ.out hB5).trans k6)
                  have HOC6 := Lib.hid (HOCr.out.kp k6)
                  have HR6 := Lib.hid (rat_kps (rat_kps HR5.out (Kp.of HBQ.out (Nat.le_refl _))) k6)
                  have hB6 : w1.heap.size ≤ w6.heap.size := Nat.le_trans (Nat.le_trans hB5 hBq) k6.size
                  clear s6 k6 hc6 hil r4 r5 r6 r7 r8
                  go_loopw [11, 15] (fun b c wq => ∃ i : Nat, i ≤ G.length ∧ c = .int .i64 i ∧ b = .bool ((G.take i).any fun x => x == J) ∧ Below w6.heap.size w6 wq) (fun _ c _ => G.length - (intOf c).toNat)
                  case atStart => exact ⟨0, Nat.zero_le _, rfl, rfl, Below.refl _ _⟩
                  case round =>
                    obtain ⟨i, hi, rfl, rfl, hby⟩ := hrel
                    have HBY := Lib.hid hby
                    have hBy : w6.heap.size ≤ wr.heap.size := hby.size
                    clear hby
                    by_cases hil : i < G.length
                    · obtain ⟨g7, rfl, hg7, hc7⟩ := HC6.out i hil
                      have r1 := (HBY.out.cell (p := ⟨g7, i, none⟩) hg7).trans hc7
                      have HT := Lib.hid (take_any G (fun x => x == J) i hil)
                      have his : (i : Int) < (G.length : Int) := by omega
                      have h0i : (0 : Int) ≤ (i : Int) := by omega
                      clear hc7
                      generalize G[i] = nn at *
                      cases hb : (G.take i).any fun x => x == J
                      · have HBB2 := Lib.hid hb
                        clear hb
                        go_wp2_with fail
                        exact ⟨⟨i + 1, by omega, by simp, by rw [HT.out, HBB2.out]; rfl, HBY.out⟩, by simp [intOf]; omega⟩
                      · have HBB2 := Lib.hid hb
                        clear hb
                        go_wp2_with fail
                        exact ⟨⟨i + 1, by omega, by simp, by rw [HT.out, HBB2.out]; rfl, HBY.out⟩, by simp [intOf]; omega⟩
                    · have hii : i = G.length := by omega
                      subst hii
                      rw [List.take_length]
                      have HOC7 := Lib.hid (HOC6.out.below HBY.out)
                      have HR7 := Lib.hid (rat_kps HR6.out (Kp.of HBY.out (Nat.le_refl _)))
                      have HLT : Hid (∀ W, Below wr.heap.size wr W → Calls Tryz.prog 27 #[.slice p10 (strs F).length cap10, .string yt] W fun e w' => e = .returned (.bool (letsB F yt)) ∧ Below W.heap.size W w') := Lib.hid fun W hW => rlets_any _ F yt W ((HR7.out.below hW).mono hW.size) (by omega) (fun x hx => HFZ.out x hx) hqt fun x w hx => rmatch_any x yt w (by omega) hqt
                      have HRV : Hid (∀ W, Calls Tryz.prog 28 #[evV ⟨yo, ys, yt, yl, yk⟩] W fun r w' => r = .returned (.bool (evRight ⟨yo, ys, yt, yl, yk⟩)) ∧ Below W.heap.size W w') := Lib.hid fun W => rev_any ⟨yo, ys, yt, yl, yk⟩ W hqt hql
                      have HBR : Hid (Below wr.heap.size wr wr) := Lib.hid (Below.refl _ _)
                      clear HOC6 HR6
                      have r4 := HOC7.out.1
                      have r5 := HOC7.out.2.1
                      have r6 := HOC7.out.2.2.1
                      have r7 := HOC7.out.2.2.2.1
                      have r8 := HOC7.out.2.2.2.2
                      have hfin : Hid (∀ wx, Below wr.heap.size wr wx → ∃ D', St w1.heap.size wx bd bm D' ∧ Kp w1.heap.size w5 wx ∧ keptM M (dMarks D' J) = true) := Lib.hid fun wx hx => ⟨DO, (HS6.out.below HBY.out).below hx, (HK6.out.trans (Kp.of HBY.out hB6)).trans (Kp.of hx (Nat.le_trans hB6 hBy)), by have := HKO.out; rw [HMM.out] at this; exact this⟩
                      cases hb : G.any fun x => x == J
                      · have hgn := HGN.out hb
                        simp only [HMM.out, HFF.out, HMK.out] at hgn
                        have HGN2 := Lib.hid hgn
                        clear hb hgn
                        go_upto_region 24 with fail
                        cases hR : evRight ⟨yo, ys, yt, yl, yk⟩
                        · have HRR := Lib.hid hR
                          clear hR
                          go_wp2_with (first | (go_at_call 28; refine (HRV.out _).mono ?_; rw [HRR.out]; rintro e w8 ⟨rfl, b8⟩; have z4 := below_cell b8 r4; have z5 := below_cell b8 r5; have z6 := below_cell b8 r6; have z7 := below_cell b8 r7; have z8 := below_cell b8 r8) | (go_at_call 27; refine (HLT.out _ b8).mono ?_; rw [HLL.out]; rintro e w9 ⟨rfl, b9⟩))
                          go_meet
                          exact hfin.out _ b8
                        · have HRR := Lib.hid hR
                          clear hR
                          by_cases hk0 : 0 < yk
                          · by_cases hms : mk < ys
                            · cases hL : letsB F yt
                              · have HLL := Lib.hid hL
                                clear hL
                                go_wp2_with (first | (go_at_call 28; refine (HRV.out _).mono ?_; rw [HRR.out]; rintro e w8 ⟨rfl, b8⟩; have z4 := below_cell b8 r4; have z5 := below_cell b8 r5; have z6 := below_cell b8 r6; have z7 := below_cell b8 r7; have z8 := below_cell b8 r8) | (go_at_call 27; refine (HLT.out _ b8).mono ?_; rw [HLL.out]; rintro e w9 ⟨rfl, b9⟩))
                                go_meet
                                exact hfin.out _ (b8.trans (b9.mono b8.size))
                              · have hM9 : ¬ M.length < 32 := fun h32 => HGN2.out ⟨HRR.out, hk0, hms, hL, h32⟩
                                have HLL := Lib.hid hL
                                clear hL
                                have hM8 : ¬ (M.length : Int) < 32 := by omega
                                go_wp2_with (first | (go_at_call 28; refine (HRV.out _).mono ?_; rw [HRR.out]; rintro e w8 ⟨rfl, b8⟩; have z4 := below_cell b8 r4; have z5 := below_cell b8 r5; have z6 := below_cell b8 r6; have z7 := below_cell b8 r7; have z8 := below_cell b8 r8) | (go_at_call 27; refine (HLT.out _ b8).mono ?_; rw [HLL.out]; rintro e w9 ⟨rfl, b9⟩))
                                go_meet
                                exact hfin.out _ (b8.trans (b9.mono b8.size))
                            · go_wp2_with (first | (go_at_call 28; refine (HRV.out _).mono ?_; rw [HRR.out]; rintro e w8 ⟨rfl, b8⟩; have z4 := below_cell b8 r4; have z5 := below_cell b8 r5; have z6 := below_cell b8 r6; have z7 := below_cell b8 r7; have z8 := below_cell b8 r8) | (go_at_call 27; refine (HLT.out _ b8).mono ?_; rw [HLL.out]; rintro e w9 ⟨rfl, b9⟩))
                              go_meet
                              exact hfin.out _ b8
                          · go_wp2_with (first | (go_at_call 28; refine (HRV.out _).mono ?_; rw [HRR.out]; rintro e w8 ⟨rfl, b8⟩; have z4 := below_cell b8 r4; have z5 := below_cell b8 r5; have z6 := below_cell b8 r6; have z7 := below_cell b8 r7; have z8 := below_cell b8 r8) | (go_at_call 27; refine (HLT.out _ b8).mono ?_; rw [HLL.out]; rintro e w9 ⟨rfl, b9⟩))
                            go_meet
                            exact hfin.out _ b8
                      · obtain ⟨y1, y2, y3, y4⟩ := HGY.out hb
                        simp only [HMM.out, HFF.out, HMK.out] at y1 y2 y3
                        have HRR := Lib.hid y4
                        have HLL := Lib.hid y3
                        clear hb y3 y4
                        go_wp2_with (first | (go_at_call 27; refine (HLT.out _ HBR.out).mono ?_; rw [HLL.out]; rintro e w7 ⟨rfl, b7⟩; have z4 := below_cell b7 r4; have z5 := below_cell b7 r5; have z6 := below_cell b7 r6; have z7 := below_cell b7 r7; have z8 := below_cell b7 r8) | (go_at_call 28; refine (HRV.out _).mono ?_; rw [HRR.out]; rintro e w8 ⟨rfl, b8⟩))
                        go_meet
                        exact hfin.out _ (b7.trans (b8.mono b7.size))
      case rest =>
        have hz := hcut
        rename World => wz
        clear hcut e0 e1 e2 e3
        clear HOC5 HR5
        as_aux_lemma =>
          obtain ⟨D', wfacts⟩ := hz
          obtain ⟨sz, kz, hkm⟩ := wfacts
          have HSZ := Lib.hid sz
          have HKZ := Lib.hid kz
          have HKM := Lib.hid hkm
          have hz5 := kz.size
          have hBz : w1.heap.size ≤ wz.heap.size := Nat.le_trans hB5 hz5
          have HMZ : Hid (∀ j (hj : j < M.length), ∃ g, p9 = some ⟨g, 0, none⟩ ∧ g < wz.heap.size ∧ wz.cell? ⟨g, j * 2, none⟩ = some (.int .i64 M[j].1) ∧ wz.cell? ⟨g, j * 2 + 1, none⟩ = some (.int .i64 M[j].2)) := Lib.hid fun j hj => by
            obtain ⟨g', h1, h2, h3, h4⟩ := HM5.out j hj
            exact ⟨g', h1, Nat.lt_of_lt_of_le h2 hz5, HKZ.out.cell h3 (not_dull_int h3), HKZ.out.cell h4 (not_dull_int h3)⟩
          have hN32 := (dMarks_sorted sz.inv J).2.1
          clear sz kz hkm
          go_wp2_with (go_at_call 21; refine (marks_st HSZ.out J hJr).mono ?_; rintro e wn ⟨⟨vn, rfl, hon⟩, hbn⟩; obtain ⟨pn, capn, rfl, hcn⟩ := OwnM.at_ hon; have HNC := Lib.hid hcn; have HBN := Lib.hid hbn; clear hcn hon hbn)
          obtain ⟨N, hN⟩ : ∃ N, dMarks D' J = N := ⟨_, rfl⟩
          rw [hN] at HKM HNC hN32 ⊢
          have hwn : wz.heap.size ≤ wn.heap.size := HBN.out.size
          clear hN
          go_loopw [17] (fun c wq => ∃ j : Nat, j ≤ M.length ∧ c = .int .i64 j ∧ Below wn.heap.size wn wq) (fun c _ => M.length - (intOf c).toNat)
          case atStart => exact ⟨0, Nat.zero_le _, rfl, Below.refl _ _⟩
          case round =>
            obtain ⟨j, hj, rfl, hbq⟩ := hrel
            have HBQ := Lib.hid hbq
            clear hbq
            by_cases hjl : j < M.length
            · obtain ⟨g9, rfl, hg9, hc9, hd9⟩ := HMZ.out j hjl
              have hall := List.all_eq_true.1 HKM.out M[j] (by simp)
              have HALL := Lib.hid hall
              have hm9 := (HBQ.out.cell (p := ⟨g9, j * 2, none⟩) (Nat.lt_of_lt_of_le hg9 hwn)).trans ((HBN.out.cell (p := ⟨g9, j * 2, none⟩) hg9).trans hc9)
              have hn9 := (HBQ.out.cell (p := ⟨g9, j * 2 + 1, none⟩) (Nat.lt_of_lt_of_le hg9 hwn)).trans ((HBN.out.cell (p := ⟨g9, j * 2 + 1, none⟩) hg9).trans hd9)
              have HM9 := Lib.hid (show _ ∧ _ from ⟨hm9, hn9⟩)
              have hg9q := World.block_lt_of_cell? _ _ hm9
              have hjs : (j : Int) < (M.length : Int) := by omega
              have h0s : (0 : Int) ≤ (j : Int) := by omega
              clear hall hc9 hd9 hm9 hn9
              generalize M[j] = mm at *
              obtain ⟨mo, ms⟩ := mm
              simp only at HALL HM9
              go_wp2_with fail
              go_loopw [18, 19] (fun b c wy => ∃ i : Nat, i ≤ N.length ∧ c = .int .i64 i ∧ b = .bool ((N.take i).any fun x => decide (x.1 = mo) && decide (ms ≤ x.2)) ∧ Below wr.heap.size wr wy) (fun _ c _ => N.length - (intOf c).toNat)
              case atStart => exact ⟨0, Nat.zero_le _, rfl, rfl, Below.refl _ _⟩
              case round =>
                obtain ⟨i, hi, rfl, rfl, hby⟩ := hrel
                have HBY := Lib.hid hby
                clear hby
                by_cases hil : i < N.length
                · obtain ⟨g7, rfl, hg7, hc7, hd7⟩ := HNC.out i hil
                  have r1 := (HBY.out.cell (p := ⟨g9, j * 2, none⟩) hg9q).trans HM9.out.1
                  have r2 := (HBY.out.cell (p := ⟨g9, j * 2 + 1, none⟩) hg9q).trans HM9.out.2
                  have r3 := (HBY.out.cell (p := ⟨g7, i * 2, none⟩) (Nat.lt_of_lt_of_le hg7 HBQ.out.size)).trans ((HBQ.out.cell (p := ⟨g7, i * 2, none⟩) hg7).trans hc7)
                  have r4 := (HBY.out.cell (p := ⟨g7, i * 2 + 1, none⟩) (Nat.lt_of_lt_of_le hg7 HBQ.out.size)).trans ((HBQ.out.cell (p := ⟨g7, i * 2 + 1, none⟩) hg7).trans hd7)
                  have HT := Lib.hid (take_any N (fun x => decide (x.1 = mo) && decide (ms ≤ x.2)) i hil)
                  have his : (i : Int) < (N.length : Int) := by omega
                  have h0i : (0 : Int) ≤ (i : Int) := by omega
                  clear hc7 hd7
                  generalize N[i] = nn at *
                  obtain ⟨no, ns⟩ := nn
                  simp only at r3 r4 HT
                  cases hb : ((N.take i).any fun x => decide (x.1 = mo) && decide (ms ≤ x.2))
                  · have HBB := Lib.hid hb
                    clear hb
                    by_cases heq : no = mo
                    · have hq : (no == mo) = true := by simpa using heq
                      have HEQ := Lib.hid heq
                      clear heq
                      go_wp2_with fail
                      go_quiet (fail)
                      go_wp2
                      exact ⟨⟨i + 1, by omega, by simp, by rw [HT.out, HBB.out]; simp [HEQ.out], below_drewN HBY.out _⟩, by simp [intOf]; omega⟩
                    · have hq : (no == mo) = false := by simpa using heq
                      have HEQ := Lib.hid heq
                      clear heq
                      go_wp2_with fail
                      go_quiet (fail)
                      go_wp2
                      exact ⟨⟨i + 1, by omega, by simp, by rw [HT.out, HBB.out]; simp [HEQ.out], below_drewN HBY.out _⟩, by simp [intOf]; omega⟩
                  · have HBB := Lib.hid hb
                    clear hb
                    go_wp2_with fail
                    go_quiet (fail)
                    go_wp2
                    exact ⟨⟨i + 1, by omega, by simp, by rw [HT.out, HBB.out]; rfl, below_drewN HBY.out _⟩, by simp [intOf]; omega⟩
                · have hii : i = N.length := by omega
                  have hany : ((N.take i).any fun x => decide (x.1 = mo) && decide (ms ≤ x.2)) = true := by rw [hii, List.take_length]; exact HALL.out
                  rw [hany]
                  clear hany hii
                  go_wp2_with fail
                  exact ⟨⟨j + 1, by omega, by simp, HBQ.out.trans (HBY.out.mono HBQ.out.size)⟩, by simp [intOf]; omega⟩
            · have hjj : j = M.length := by omega
              clear hjj
              go_wp2_with fail
              refine ⟨⟨k + 1, D', by omega, by simp, (HSZ.out.below HBN.out).below HBQ.out, ?_⟩, by simp [intOf]; omega⟩
              exact ((HK5.out.trans HKZ.out).trans (Kp.of HBN.out hBz)).trans (Kp.of HBQ.out (Nat.le_trans hBz hwn))
    · have hkk : k = ops.length := by omega
      subst hkk
      go_wp2_with (go_at_call 18; refine (fixed_any _).mono ?_; rintro e x2 ⟨rfl, hx2⟩)
      go_ret
      exact ⟨rfl, (HB2.out.trans (HKP.out.below.mono h01)).trans (hx2.mono (Nat.le_trans h01 hBr))⟩
end Go.Proofs.YtjabhhpmofodlaaGreatDoor
