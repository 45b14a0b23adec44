/- rivuletlaw19.DeviceFresh. -/
import Derived.Test.YtjabhhpmofodlaaGreatDoorL3
namespace Go.Proofs.YtjabhhpmofodlaaGreatDoor
open Go.RowKit
set_option linter.unusedVariables false
set_option linter.unusedSimpArgs false
/-! ### devices with a stretch of memory that they leave alone -/
structure Mid (a b : Nat) (w w' : World) : Prop where
  size : w.heap.size ≤ w'.heap.size
  keep : ∀ i, a ≤ i → i < b → w'.heap[i]? = w.heap[i]?
theorem Mid.trans {a b : Nat} {w w1 w2 : World} (h : Mid a b w w1) (k : Mid a b w1 w2) : Mid a b w w2 := ⟨Nat.le_trans h.size k.size, fun i h1 h2 => (k.keep i h1 h2).trans (h.keep i h1 h2)⟩
theorem Mid.of {a b : Nat} {w w' : World} (h : Below w.heap.size w w') (hb : b ≤ w.heap.size) : Mid a b w w' := ⟨h.size, fun i _ h2 => h.block i (by omega)⟩
theorem own_mid {w w' : World} {a b base n size : Nat} {e : TypeId} {v : Value} {xs : List Value} (h : w.ownsRow base e size v n xs) (hm : Mid a b w w') (ha : a ≤ base) (hb : w.heap.size ≤ b) : w'.ownsRow base e size v n xs := by
  obtain ⟨h1, h2⟩ := h
  refine ⟨h1, ?_⟩
  rcases h2 with h2 | ⟨g, cap, cur, rfl, hg, hbl, r⟩
  · exact .inl h2
  · have hlt := (Array.getElem?_eq_some_iff.1 hbl).1
    exact .inr ⟨g, cap, cur, rfl, hg, (hm.keep g (by omega) (by omega)).trans hbl, r⟩
def StH (B a b : Nat) (w : World) (bd bm : Nat) (D : List D1) : Prop := ∃ L, DevAt w bd bm L ∧ ab L = D ∧ (∀ i, foot bm L i → B ≤ i ∧ (i < a ∨ b ≤ i)) ∧ DInv D
theorem StH.st {B a b : Nat} {w : World} {bd bm : Nat} {D : List D1} (h : StH B a b w bd bm D) : St B w bd bm D := by
  obtain ⟨L, h1, h2, h3, h4⟩ := h
  exact ⟨L, h1, h2, fun i hi => (h3 i hi).1, h4⟩
theorem St.hole {B : Nat} {w w' : World} {bd bm : Nat} {D : List D1} (h : St B w bd bm D) (hb : Below w.heap.size w w') (b : Nat) : StH B w.heap.size b w' bd bm D := by
  obtain ⟨L, h1, h2, h3, h4⟩ := h
  exact ⟨L, h1.below hb, h2, fun i hi => ⟨h3 i hi, .inl (h1.lt i hi)⟩, h4⟩
theorem StH.below {B a b : Nat} {w w' : World} {bd bm : Nat} {D : List D1} (h : StH B a b w bd bm D) (hb : Below w.heap.size w w') : StH B a b w' bd bm D := by
  obtain ⟨L, h1, h2, h3, h4⟩ := h
  exact ⟨L, h1.below hb, h2, h3, h4⟩
theorem StH.step {B a b : Nat} {w w' : World} {bd bm : Nat} {L : List G} {D' : List D1} (hf : ∀ i, foot bm L i → B ≤ i ∧ (i < a ∨ b ≤ i)) (hB : B ≤ w.heap.size) (hb : b ≤ w.heap.size) (hs : Step w bd bm L w' D') (hI : DInv D') (hD : DevAt w bd bm L) : StH B a b w' bd bm D' ∧ Kp B w w' ∧ Mid a b w w' := by
  have hk := (St.step (fun i hi => (hf i hi).1) hB hs hI hD).2
  obtain ⟨L', h1, h2, h3, h4⟩ := hs
  refine ⟨⟨L', h1, h2, ?_, hI⟩, hk, ⟨h4.size, fun i hi1 hi2 => h4.block i (by omega) fun hfi => by have := (hf i hfi).2; omega⟩⟩
  intro i hi
  rcases h3 i hi with h | h
  · exact hf i h
  · exact ⟨by omega, .inr (by omega)⟩
theorem join_h {B a b : Nat} {w : World} {bd bm : Nat} {D : List D1} (h : StH B a b w bd bm D) (hB : B ≤ w.heap.size) (hb : b ≤ w.heap.size) (id : Int) :
    Calls Tryz.prog 23 #[.pointer (some ⟨bd, 0, none⟩), .int .i64 id] w fun e w' => e = .returned (.int .i64 (dJoin D id).1) ∧ StH B a b w' bd bm (dJoin D id).2 ∧ Kp B w w' ∧ Mid a b w w' := by
  obtain ⟨L, h1, rfl, h3, h4⟩ := h
  refine (join_any id bd bm L w h1 (by have := lenL rfl h4; omega)).mono ?_
  rintro e w' ⟨rfl, hs⟩
  exact ⟨rfl, StH.step h3 hB hb hs (dJoin_inv h4 id) h1⟩
theorem leave_h {B a b : Nat} {w : World} {bd bm : Nat} {D : List D1} (h : StH B a b w bd bm D) (hB : B ≤ w.heap.size) (hb : b ≤ w.heap.size) (id : Int) (hid : -9223372036854775808 ≤ id ∧ id ≤ 9223372036854775807) :
    Calls Tryz.prog 24 #[.pointer (some ⟨bd, 0, none⟩), .int .i64 id] w fun e w' => e = .returned (.int .i64 (dLeave D id).1) ∧ StH B a b w' bd bm (dLeave D id).2 ∧ Kp B w w' ∧ Mid a b w w' := by
  obtain ⟨L, h1, rfl, h3, h4⟩ := h
  refine (leave_any id bd bm L w h1 hid).mono ?_
  rintro e w' ⟨rfl, hs⟩
  exact ⟨rfl, StH.step h3 hB hb hs (dLeave_inv h4 id) h1⟩
/-! ### rows of rows -/
theorem own_apart {w : World} {b1 b2 s1 s2 n1 n2 : Nat} {e1 e2 : TypeId} {v1 v2 : Value} {xs1 xs2 : List Value} (h1 : w.ownsRow b1 e1 s1 v1 n1 xs1) (h2 : w.ownsRow b2 e2 s2 v2 n2 xs2) (he : e1 ≠ e2) : v1.ownBlock = none ∨ v1.ownBlock ≠ v2.ownBlock := by
  rcases h1.2 with ⟨rfl, _⟩ | ⟨g1, c1, cur1, rfl, _, hb1, _⟩
  · exact .inl rfl
  · right
    rcases h2.2 with ⟨rfl, _⟩ | ⟨g2, c2, cur2, rfl, _, hb2, _⟩
    · simp [Value.ownBlock]
    · simp only [Value.ownBlock, ne_eq, Option.some.injEq]
      rintro rfl
      rw [hb1] at hb2
      simp at hb2
      exact he hb2.2
/-- What is kept of each device: rows of filters, rows of marks. -/
structure Rows2 (D : List D1) (R : List Int) (a : Nat) (w : World) (f m : Value) (vf vm : List Value) : Prop where
  rf : w.ownsRow a 42 1 f vf.length vf
  rm : w.ownsRow a 40 1 m vm.length vm
  fs : ∀ (j : Nat) (u : Value), vf[j]? = some u → ∃ i : Int, R[j]? = some i ∧ OwnS w a u (dFil D i)
  ms : ∀ (j : Nat) (u : Value), vm[j]? = some u → ∃ i : Int, R[j]? = some i ∧ OwnM w a u (dMarks D i)
theorem Rows2.mid {D : List D1} {R : List Int} {a b : Nat} {w w' : World} {f m : Value} {vf vm : List Value} (h : Rows2 D R a w f m vf vm) (hm : Mid a b w w') (hb : w.heap.size ≤ b) : Rows2 D R a w' f m vf vm :=
  ⟨own_mid h.rf hm (Nat.le_refl _) hb, own_mid h.rm hm (Nat.le_refl _) hb, fun j u hu => by obtain ⟨i, hi, ho⟩ := h.fs j u hu; exact ⟨i, hi, own_mid ho hm (Nat.le_refl _) hb⟩, fun j u hu => by obtain ⟨i, hi, ho⟩ := h.ms j u hu; exact ⟨i, hi, own_mid ho hm (Nat.le_refl _) hb⟩⟩
theorem Rows2.below {D : List D1} {R : List Int} {a : Nat} {w w' : World} {f m : Value} {vf vm : List Value} (h : Rows2 D R a w f m vf vm) (hb : Below w.heap.size w w') : Rows2 D R a w' f m vf vm := h.mid (Mid.of hb (Nat.le_refl _)) (Nat.le_refl _)
theorem Rows2.addF {D : List D1} {R : List Int} {a : Nat} {w w1 : World} {f m f1 u : Value} {vf vm : List Value} {i : Int} (h : Rows2 D R a w f m vf vm) (hi : R[vf.length]? = some i) (hu : OwnS w a u (dFil D i)) (ho : w1.ownsRow a 42 1 f1 (vf ++ [u]).length (vf ++ [u])) (hg : w.grownBy w1 f.ownBlock) : Rows2 D R a w1 f1 m (vf ++ [u]) vm := by
  have hS : ∀ u' i', OwnS w a u' (dFil D i') → OwnS w1 a u' (dFil D i') := fun u' i' ho' => World.ownsRow.kept ho' hg (own_apart ho' h.rf (by decide))
  refine ⟨ho, World.ownsRow.kept h.rm hg (own_apart h.rm h.rf (by decide)), ?_, fun j u' hu' => ?_⟩
  · intro j u' hu'
    by_cases hj : j < vf.length
    · rw [List.getElem?_append_left hj] at hu'
      obtain ⟨i', hi', ho'⟩ := h.fs j u' hu'
      exact ⟨i', hi', hS _ _ ho'⟩
    · have hj2 := (List.getElem?_eq_some_iff.1 hu').1
      simp only [List.length_append, List.length_cons, List.length_nil] at hj2
      obtain rfl : j = vf.length := by omega
      simp at hu'
      subst hu'
      exact ⟨i, hi, hS _ _ hu⟩
  · obtain ⟨i', hi', ho'⟩ := h.ms j u' hu'
    exact ⟨i', hi', World.ownsRow.kept ho' hg (own_apart ho' h.rf (by decide))⟩
theorem Rows2.addM {D : List D1} {R : List Int} {a : Nat} {w w1 : World} {f m m1 u : Value} {vf vm : List Value} {i : Int} (h : Rows2 D R a w f m vf vm) (hi : R[vm.length]? = some i) (hu : OwnM w a u (dMarks D i)) (ho : w1.ownsRow a 40 1 m1 (vm ++ [u]).length (vm ++ [u])) (hg : w.grownBy w1 m.ownBlock) : Rows2 D R a w1 f m1 vf (vm ++ [u]) := by
  have hS : ∀ u' i', OwnM w a u' (dMarks D i') → OwnM w1 a u' (dMarks D i') := fun u' i' ho' => World.ownsRow.kept ho' hg (own_apart ho' h.rm (by decide))
  refine ⟨World.ownsRow.kept h.rf hg (own_apart h.rf h.rm (by decide)), ho, fun j u' hu' => ?_, ?_⟩
  · obtain ⟨i', hi', ho'⟩ := h.fs j u' hu'
    exact ⟨i', hi', World.ownsRow.kept ho' hg (own_apart ho' h.rm (by decide))⟩
  · intro j u' hu'
    by_cases hj : j < vm.length
    · rw [List.getElem?_append_left hj] at hu'
      obtain ⟨i', hi', ho'⟩ := h.ms j u' hu'
      exact ⟨i', hi', hS _ _ ho'⟩
    · have hj2 := (List.getElem?_eq_some_iff.1 hu').1
      simp only [List.length_append, List.length_cons, List.length_nil] at hj2
      obtain rfl : j = vm.length := by omega
      simp at hu'
      subst hu'
      exact ⟨i, hi, hS _ _ hu⟩
/-- The row of rows, opened at a place. -/
theorem own_cell1 {w : World} {base : Nat} {e : TypeId} {v : Value} {vs : List Value} (h : w.ownsRow base e 1 v vs.length vs) (h0 : 0 < vs.length) : ∃ g cap, v = .slice (some ⟨g, 0, none⟩) vs.length cap ∧ base ≤ g ∧ g < w.heap.size ∧ ∀ j u, vs[j]? = some u → w.cell? ⟨g, j, none⟩ = some u := by
  rcases h.2 with ⟨rfl, h2⟩ | ⟨g, cap, cur, rfl, hg, hb, hn, hm, hs, hc⟩
  · omega
  · refine ⟨g, cap, rfl, hg, (Array.getElem?_eq_some_iff.1 hb).1, fun j u hu => ?_⟩
    have hj := (List.getElem?_eq_some_iff.1 hu).1
    rw [← hc, List.getElem?_take_of_lt (by omega)] at hu
    rw [cell_arr hb]; simpa using hu
theorem dec_self {α : Type} [DecidableEq α] (a : α) : decide (a = a) = true := by simp
theorem any_snoc (R : List Int) (id : Int) (k : Nat) (hk : k < R.length) : ((R.take (k + 1)).any fun x => x == id) = (((R.take k).any fun x => x == id) || R[k] == id) := by
  rw [List.take_add_one, List.any_append, List.getElem?_eq_getElem hk]; simp
theorem info42 : (Tryz.prog.info? 42).map (fun i => (i.zero, i.size, i.bytes)) = some (some (.slice none 0 0), 1, 24) := by kernel_rfl
theorem info40 : (Tryz.prog.info? 40).map (fun i => (i.zero, i.size, i.bytes)) = some (some (.slice none 0 0), 1, 24) := by kernel_rfl
set_option maxRecDepth 100000 in
set_option maxHeartbeats 8000000 in
theorem fresh_any (v : Value) (l : List Op) (id : Int) (w : World) (hv : OpsAt w w.heap.size v l) (hl : l.length ≤ 9223372036854775807) (hw : ∀ o ∈ l, OpWf o) (hid : -9223372036854775808 ≤ id ∧ id ≤ 9223372036854775807) :
    Calls Tryz.prog 7 #[v, .int .i64 id] w fun r w' => r = .returned (.bool true) ∧ Below w.heap.size w w' := by
  have HCUT := Lib.hid (cut_ops_any v l w hv hl fun o ho => ⟨(hw o ho).2.2.1, (hw o ho).2.2.2.1, (hw o ho).2.2.2.2⟩)
  have HHW := Lib.hid hw
  have HID := Lib.hid hid
  clear hv hl hw hid
  go_enter Tryz.func7, Tryz.ntmps7
  go_wp2_with (first | (go_at_call 19; refine HCUT.out.mono ?_; rintro r w1 ⟨v1, rfl, hr1, hb1⟩) | (go_at_call 20; refine (new_st _).mono ?_; rintro r w2 ⟨⟨bd, bm, rfl, s2⟩, hb2⟩; obtain ⟨ops, p, cap, hv1, hop1, hops, hmem, hpb⟩ := script_of hr1 HHW.out; subst hv1; have HOP := Lib.hid (OpsP.kp hop1 (Kp.of hb2 (Nat.le_refl _))); have HMEM := Lib.hid hmem; clear hop1 hmem hpb hr1))
  have HB2 := Lib.hid (hb1.trans (hb2.mono hb1.size))
  have h12 := hb2.size
  have h01 := hb1.size
  clear hb1 hb2 HCUT
  have HK0 : Hid (Kp w1.heap.size w2 w2) := Lib.hid (Kp.refl _ _)
  have m1 : True := trivial
  go_loopw [7] (fun c wr => ∃ (k : Nat) (D : List D1), k ≤ ops.length ∧ c = .int .i64 k ∧ St w1.heap.size wr bd bm D ∧ Kp w1.heap.size w2 wr) (fun c _ => ops.length - (intOf c).toNat)
  case atStart => exact ⟨0, [], Nat.zero_le _, rfl, s2, HK0.out⟩
  case round =>
    obtain ⟨k, D, hk, rfl, hst, hkp⟩ := hrel
    have HKP := Lib.hid hkp
    have HST := Lib.hid hst
    have hBr : w1.heap.size ≤ wr.heap.size := Nat.le_trans h12 hkp.size
    clear hkp hst s2 HK0
    by_cases hlt : k < ops.length
    · obtain ⟨g, rfl, hc⟩ := HOP.out.kp HKP.out k hlt
      have hwf := HMEM.out ops[k] (by simp)
      generalize ops[k] = x at *
      obtain ⟨xk, xid, xf, xon, ⟨yo, ys, yt, yl, yk⟩⟩ := x
      have c0 : wr.cell? ⟨g, k * 9, none⟩ = some (.int .i64 xk) := hc 0 _ rfl
      have c1 := hc 1 _ rfl
      have c2 := hc 2 _ rfl
      have c3 := hc 3 _ rfl
      have c4 := hc 4 _ rfl
      have c5 := hc 5 _ rfl
      have c6 := hc 6 _ rfl
      have c7 := hc 7 _ rfl
      have c8 := hc 8 _ rfl
      obtain ⟨⟨i1, i2, _, _, _⟩, i3, i4⟩ := hwf
      simp only at i1 i2 i3 i4
      have hk80 : k < 80 := by omega
      clear hc
      go_wp2_with (first | (go_at_call 23; refine (join_st HST.out hBr xid).mono ?_; rintro e w4 ⟨rfl, s4, k4⟩) | (go_at_call 26; refine (offer_st HST.out hBr ⟨yo, ys, yt, yl, yk⟩ (by simp only; omega)).mono ?_; rintro e w4 ⟨⟨v4, rfl, _⟩, s4, k4⟩))
      · exact ⟨⟨k + 1, _, by omega, by simp, s4, HKP.out.trans k4⟩, by simp [intOf]; omega⟩
      · go_region_held3 (fun W => W.cell? ⟨g, k * 9 + 1, none⟩ = some (.int .i64 xid) ∧ W.cell? ⟨g, k * 9 + 2, none⟩ = some (.string xf) ∧ W.cell? ⟨g, k * 9 + 3, none⟩ = some (.bool xon)) (first | exact ⟨c1, c2, c3⟩ | exact hk4.out) (first | (go_at_call 25; refine (ask_st (HST.out.below (Below.refl _ _).drew) hBr xid xf xon ⟨i1, i2⟩ (by omega)).mono ?_; rintro e w4 ⟨rfl, s4, k4⟩; have hk4 := Lib.hid (And.intro (k4.cell c1 (not_dull_int (w := wr.drew) c0)) (And.intro (k4.cell c2 (not_dull_int (w := wr.drew) c0)) (k4.cell c3 (not_dull_int (w := wr.drew) c0))))))
        go_wp2_with fail
        exact ⟨⟨k + 1, _, by omega, by simp, s4, (HKP.out.trans (Kp.of (Below.refl _ _).drew hBr)).trans k4⟩, by simp [intOf]; omega⟩
      · exact ⟨⟨k + 1, _, by omega, by simp, s4, HKP.out.trans k4⟩, by simp [intOf]; omega⟩
    · have hkk : k = ops.length := by omega
      have hI := HST.out.inv
      have hRl : (dIds D).length = D.length := by simp [dIds]
      have hD16 := hI.len
      have HI := Lib.hid hI
      have HKK := Lib.hid hkk
      have hta := there_any D id
      have hRr : ∀ i ∈ dIds D, -9223372036854775808 ≤ i ∧ i ≤ 9223372036854775807 := by
        intro i hi
        obtain ⟨x, hx, rfl⟩ := List.mem_map.1 hi
        have := (HI.out.xs x hx).id
        unfold maxNum at this
        omega
      have HTA := Lib.hid hta
      have HRL := Lib.hid hRl
      have HRR := Lib.hid hRr
      clear hI hkk hRl hta hRr
      generalize hR : dIds D = R at *
      have HID5 : Hid (Calls Tryz.prog 33 #[.pointer (some ⟨bd, 0, none⟩)] wr fun e w' => (∃ v, e = .returned v ∧ OwnI w' wr.heap.size v R) ∧ Below wr.heap.size wr w') := Lib.hid (by rw [← hR]; exact ids_st HST.out)
      have HR := Lib.hid hR
      clear hR
      go_wp2_with (go_at_call 33; refine HID5.out.mono ?_; rintro e w5 ⟨⟨v5, rfl, ho5⟩, hb5⟩)
      have hr5 : RAt w5 w5.heap.size v5 (ints R) := own_at ho5
      obtain ⟨p5, cap5, hv5, hc5⟩ := hr5
      have hil : (ints R).length = R.length := by simp [ints]
      rw [hil] at hv5
      subst hv5
      have HC5 : Hid (∀ j (hj : j < R.length), ∃ g, p5 = some ⟨g, 0, none⟩ ∧ g < w5.heap.size ∧ w5.cell? ⟨g, j, none⟩ = some (.int .i64 R[j])) := Lib.hid (fun j hj => by
        obtain ⟨g, h1, h2, h3⟩ := hc5 j (by rw [hil]; exact hj)
        exact ⟨g, h1, h2, by rw [h3]; simp [ints]⟩)
      have HST5 := Lib.hid (HST.out.below hb5)
      have hb5s := hb5.size
      have HBB5 : Hid (Below w.heap.size w w5) := Lib.hid (HB2.out.trans ((HKP.out.below.mono h01).trans (hb5.mono (Nat.le_trans h01 hBr))))
      have h05 : w.heap.size ≤ w5.heap.size := Nat.le_trans h01 (Nat.le_trans hBr hb5s)
      have h15 : w1.heap.size ≤ w5.heap.size := Nat.le_trans hBr hb5s
      have hR16 : R.length ≤ 16 := by have := HRL.out; omega
      clear hc5 hil ho5 hb5 hb5s HST HKP HB2 HID5 HKK HOP HMEM hk h12 hD16 hBr
      go_loopw [9, 10, 11, 12] (fun b f m c wq => ∃ (j : Nat) (vf vm : List Value), j ≤ R.length ∧ vf.length = j ∧ vm.length = j ∧ c = .int .i64 j ∧ b = .bool ((R.take j).any fun x => x == id) ∧ Rows2 D R w5.heap.size wq f m vf vm ∧ Below w5.heap.size w5 wq) (fun _ _ _ c _ => R.length - (intOf c).toNat)
      case atStart =>
        refine ⟨0, [], [], Nat.zero_le _, rfl, rfl, rfl, rfl, ⟨?_, ?_, by simp, by simp⟩, below_al (below_al (Below.refl _ _) _) _⟩
        · exact (World.ownsRow_lit (size := 1) w5 #[] 0 (Nat.le_refl _) (by simp) (by simp)).alloc _
        · have := World.ownsRow_lit (base := w5.heap.size) (e := 40) (size := 1) (w5.alloc (.cells #[] 42)) #[] 0 (by simp) (by simp) (by simp)
          simpa using this
      case round =>
        obtain ⟨j, vf, vm, hj, hvf, hvm, rfl, rfl, hrows, hbq⟩ := hrel
        by_cases hlt : j < R.length
        · obtain ⟨g, rfl, hg, hcell⟩ := HC5.out j hlt
          have hcq := (hbq.cell (p := ⟨g, j, none⟩) hg).trans hcell
          have HCELL := Lib.hid hcell
          have hir := HRR.out R[j] (by simp)
          have HSN := Lib.hid (any_snoc R id j hlt)
          have HRJ : Hid (R[j]? = some R[j]) := Lib.hid (List.getElem?_eq_getElem hlt)
          have HSTQ := Lib.hid (HST5.out.below hbq)
          have HQ := Lib.hid hrows
          have hbqs := hbq.size
          have HBQ := Lib.hid hbq
          have HVF := Lib.hid hvf
          have HVM := Lib.hid hvm
          clear hcell hrows hvf hvm hbq
          generalize R[j] = i at *
          have n1 : True := trivial
          cases hth : ((R.take j).any fun x => x == id)
          all_goals
            have HTH := Lib.hid hth
            clear hth
            go_wp2_with (first | (go_at_call 22; refine (filters_st HSTQ.out i hir).mono ?_; rintro e w6 ⟨⟨v6, rfl, ho6⟩, hb6⟩; obtain ⟨p6, cap6, rfl, _⟩ := own_at ho6; have HO6 := Lib.hid ho6; have HQ6 := Lib.hid (HQ.out.below hb6); have hw6 := Nat.le_trans hbqs hb6.size; have HB6 := Lib.hid (HBQ.out.trans (hb6.mono hbqs)); clear ho6 hb6) | (go_at_call 21; refine (marks_st (HST5.out.below HB7.out) i hir).mono ?_; rintro e w8 ⟨⟨v8, rfl, ho8⟩, hb8⟩; obtain ⟨p8, cap8, rfl, _⟩ := OwnM.at_ ho8; have HO8 := Lib.hid ho8; have HQ8 := Lib.hid (HQ7.out.below hb8); have hw8 := Nat.le_trans hw7 hb8.size; have HB8 := Lib.hid (HB7.out.trans (hb8.mono hw7)); clear ho8 hb8) | (at_builtin; go_must (first | (clear n1; refine app1 (w0 := w6) (base := w5.heap.size) rfl _ _ 59 42 (.slice none 0 0) 24 rfl Tryz.underlying59 info42 rfl (by decide) u10 vf (.slice p6 _ cap6) rfl rfl rfl HQ6.out.rf (Below.refl _ _) hw6 (by rw [HVF.out]; omega) ?_; intro v7 w7 hrow7 hb7 hw7 hg7 _; have HQ7 := Lib.hid (HQ6.out.addF (i := i) (by rw [HVF.out]; exact HRJ.out) (own_weaken HO6.out hbqs) hrow7 hg7); have HB7 := Lib.hid (HB6.out.trans hb7); have hcq7 := (HB7.out.cell (p := ⟨g, j, none⟩) hg).trans HCELL.out; clear hrow7 hb7 hg7) | (refine app1 (w0 := w8) (base := w5.heap.size) rfl _ _ 60 40 (.slice none 0 0) 24 rfl Tryz.underlying60 info40 rfl (by decide) u11 vm (.slice p8 _ cap8) rfl rfl rfl HQ8.out.rm (Below.refl _ _) hw8 (by rw [HVM.out]; omega) ?_; intro v9 w9 hrow9 hb9 hw9 hg9 _; have HQ9 := Lib.hid (HQ8.out.addM (i := i) (by rw [HVM.out]; exact HRJ.out) (own_weaken HO8.out hw7) hrow9 hg9); have HB9 := Lib.hid (HB8.out.trans hb9); clear hrow9 hb9 hg9))))
            refine ⟨⟨j + 1, _, _, by omega, ?_, ?_, by simp, ?_, HQ9.out, HB9.out⟩, by simp [intOf]; omega⟩
            · rw [List.length_append, HVF.out]; rfl
            · rw [List.length_append, HVM.out]; rfl
            · rw [HSN.out, HTH.out]; simp
        · have hjR : j = R.length := by omega
          have hP : ((R.take j).any fun x => x == id) = (D.find? fun x => x.1 == id).isSome := by rw [hjR, List.take_length]; exact HTA.out
          have HP := Lib.hid hP
          have HST6 := Lib.hid (HST5.out.hole hbq wr.heap.size)
          have hBq : w1.heap.size ≤ wr.heap.size := Nat.le_trans h15 hbq.size
          have hid1 := HID.out
          have HQ := Lib.hid hrows
          have HBQ := Lib.hid hbq
          have HVF := Lib.hid (hvf.trans hjR)
          have HVM := Lib.hid (hvm.trans hjR)
          have hs5 : w5.heap.size ≤ wr.heap.size := hbq.size
          have HJR := Lib.hid hjR
          clear hrows hbq hvf hvm hP hjR
          have HPS0 : Hid (∀ b, (D.find? fun x => x.1 == id).isSome = b → ((R.take j).any fun x => x == id) = b) := Lib.hid (fun b hb => by rw [HP.out, hb])
          cases hps : (D.find? fun x => x.1 == id).isSome
          case' false =>
            have HFN := Lib.hid (fresh_none hps)
            rw [HPS0.out _ hps]
            clear hps
            go_wp2_with (go_at_call 24; refine (leave_h HST6.out hBq (Nat.le_refl _) id hid1).mono ?_; rw [HFN.out]; rintro e wz ⟨rfl, sz, kz, mz⟩)
            have hz : ∃ D3, StH w1.heap.size w5.heap.size wr.heap.size wz bd bm D3 ∧ (∀ i, i ≠ id → dFil D3 i = dFil D i ∧ dMarks D3 i = dMarks D i) ∧ D3.length = D.length := ⟨D, sz, fun _ _ => ⟨rfl, rfl⟩, rfl⟩
            clear sz HFN
          case' true =>
            have HFF := Lib.hid (fresh_facts HI.out hps)
            rw [HPS0.out _ hps]
            clear hps
            obtain ⟨D1', hD1'⟩ : ∃ D1', (dLeave D id).2 = D1' := ⟨_, rfl⟩
            obtain ⟨D3', hD3'⟩ : ∃ D3', (dJoin D1' id).2 = D3' := ⟨_, rfl⟩
            have hf1 : (dLeave D id).1 = 0 := HFF.out.1
            have hf2 : (dJoin D1' id).1 = 0 := by rw [← hD1']; exact HFF.out.2.1
            have hf3 : dFil D3' id = [] := by rw [← hD3', ← hD1']; exact HFF.out.2.2.1
            have hf4 : dMarks D3' id = [] := by rw [← hD3', ← hD1']; exact HFF.out.2.2.2.1
            have hf5 : D3'.length = D.length := by rw [← hD3', ← hD1']; exact HFF.out.2.2.2.2
            have hf6 : ∀ i, i ≠ id → dFil D3' i = dFil D i ∧ dMarks D3' i = dMarks D i := by rw [← hD3', ← hD1']; exact fun i hi => fresh_else hi
            have F1 := Lib.hid hf1
            have F2 := Lib.hid hf2
            have F3 := Lib.hid hf3
            have F4 := Lib.hid hf4
            have F5 := Lib.hid hf5
            have F6 := Lib.hid hf6
            have F7 := Lib.hid hD1'
            have F8 := Lib.hid hD3'
            clear hf1 hf2 hf3 hf4 hf5 hf6 hD1' hD3' HFF
            go_wp2_with (first | (go_at_call 24; refine (leave_h HST6.out hBq (Nat.le_refl _) id hid1).mono ?_; rw [F1.out, F7.out]; rintro e w6 ⟨rfl, s6, k6, m6⟩) | (go_at_call 23; refine (join_h s6 (Nat.le_trans hBq m6.size) m6.size id).mono ?_; rw [F2.out, F8.out]; rintro e w7 ⟨rfl, s7, k7, m7⟩) | (go_at_call 22; refine (filters_st s7.st id hid1).mono ?_; rw [F3.out]; rintro e w8 ⟨⟨v8, rfl, ho8⟩, hb8⟩; obtain ⟨p8, c8, rfl⟩ := (own_at ho8).nil_open rfl; clear ho8) | (go_at_call 21; refine (marks_st (s7.below hb8).st id hid1).mono ?_; rw [F4.out]; rintro e wz ⟨⟨v9, rfl, ho9⟩, hb9⟩; obtain ⟨p9, c9, rfl⟩ := (OwnM.at_ ho9).nil_open rfl; clear ho9))
            have sz := (s7.below hb8).below hb9
            have hm7 : wr.heap.size ≤ w7.heap.size := Nat.le_trans m6.size m7.size
            have hm8 : wr.heap.size ≤ w8.heap.size := Nat.le_trans hm7 hb8.size
            have mz : Mid w5.heap.size wr.heap.size wr wz := ((m6.trans m7).trans (Mid.of hb8 hm7)).trans (Mid.of hb9 hm8)
            have kz : Kp w1.heap.size wr wz := ((k6.trans k7).trans (Kp.of hb8 (Nat.le_trans hBq hm7))).trans (Kp.of hb9 (Nat.le_trans hBq hm8))
            have hz : ∃ D3, StH w1.heap.size w5.heap.size wr.heap.size wz bd bm D3 ∧ (∀ i, i ≠ id → dFil D3 i = dFil D i ∧ dMarks D3 i = dMarks D i) ∧ D3.length = D.length := ⟨D3', sz, F6.out, F5.out⟩
            clear sz s6 s7 k6 k7 m6 m7 hb8 hb9 F1 F2 F3 F4 F5 F6 F7 F8 hm7 hm8
          all_goals
            obtain ⟨D3, sz, hfe, hlen3⟩ := hz
            have HSZ := Lib.hid sz.st
            have HFE := Lib.hid hfe
            have HQZ := Lib.hid (HQ.out.mid mz (Nat.le_refl _))
            have HKZ := Lib.hid kz
            have hrz : wr.heap.size ≤ wz.heap.size := mz.size
            have HBZ : Hid (Below w.heap.size w wz) := Lib.hid (HBB5.out.trans ((HBQ.out.mono h05).trans (kz.below.mono h01)))
            have hwz : w.heap.size ≤ wz.heap.size := Nat.le_trans h05 (Nat.le_trans hs5 hrz)
            have hd3 : (dIds D3).length = R.length := by have := HRL.out; simp [dIds]; omega
            have HD3 := Lib.hid hd3
            have hI3 := HSZ.out.inv
            have HI3 := Lib.hid hI3
            clear sz hfe kz mz hI3 hlen3 HST6 HQ HPS0 HP hd3
            by_cases h0 : 0 < R.length
            · obtain ⟨gf, capf, hf, hgf1, hgf2, hcf⟩ := own_cell1 HQZ.out.rf (by rw [HVF.out]; exact h0)
              obtain ⟨gm, capm, hm, hgm1, hgm2, hcm⟩ := own_cell1 HQZ.out.rm (by rw [HVM.out]; exact h0)
              rw [HVF.out] at hf
              rw [HVM.out] at hm
              subst hf hm
              have HCF := Lib.hid hcf
              have HCM := Lib.hid hcm
              clear hcf hcm
              go_wp2_with fail
              go_loopw [13] (fun c wq => ∃ k3 : Nat, k3 ≤ R.length ∧ c = .int .i64 k3 ∧ Below wz.heap.size wz wq) (fun c _ => R.length - (intOf c).toNat)
              case atStart => exact ⟨0, Nat.zero_le _, rfl, Below.refl _ _⟩
              case round =>
                obtain ⟨k3, hk3, rfl, hbw⟩ := hrel
                have HBW := Lib.hid hbw
                clear hbw
                by_cases hl3 : k3 < R.length
                · obtain ⟨g, rfl, hg, hcell⟩ := HC5.out k3 hl3
                  have hcz := HKZ.out.cell ((HBQ.out.cell (p := ⟨g, k3, none⟩) hg).trans hcell) (not_dull_int ((HBQ.out.cell (p := ⟨g, k3, none⟩) hg).trans hcell))
                  have q1 := below_cell HBW.out.drew hcz
                  obtain ⟨uf, huf⟩ : ∃ u, vf[k3]? = some u := ⟨vf[k3]'(by rw [HVF.out]; exact hl3), List.getElem?_eq_getElem _⟩
                  obtain ⟨um, hum⟩ : ∃ u, vm[k3]? = some u := ⟨vm[k3]'(by rw [HVM.out]; exact hl3), List.getElem?_eq_getElem _⟩
                  have q2 := below_cell HBW.out.drew (HCF.out k3 uf huf)
                  have q3 := below_cell HBW.out.drew (HCM.out k3 um hum)
                  obtain ⟨i1, hi1, hof⟩ := HQZ.out.fs k3 uf huf
                  obtain ⟨i2, hi2, hom⟩ := HQZ.out.ms k3 um hum
                  rw [List.getElem?_eq_getElem hl3] at hi1 hi2
                  simp only [Option.some.injEq] at hi1 hi2
                  subst hi1 hi2
                  have HSW := Lib.hid (HSZ.out.below HBW.out.drew)
                  have HUF := Lib.hid (((own_at hof).below HBW.out.drew).mono HBW.out.drew.size)
                  have HUM := Lib.hid (((OwnM.at_ hom).below HBW.out.drew).mono HBW.out.drew.size)
                  have hir := HRR.out R[k3] (by simp)
                  have hsz1 := dMarks_sorted HI.out R[k3]
                  have hsz3 := dMarks_sorted HI3.out R[k3]
                  have HFI := Lib.hid (HFE.out R[k3])
                  clear hcell hcz huf hum hof hom
                  generalize R[k3] = i at *
                  have h0k : (0 : Int) ≤ (k3 : Int) := by omega
                  have hki : (k3 : Int) < (R.length : Int) := by omega
                  by_cases hii : i = id
                  · subst hii
                    have hne : (i != i) = false := by simp
                    go_wp2_with fail
                    refine wp_region_held_drew (S := (fun w' => w'.cell? ⟨g, k3, none⟩ = some (.int .i64 i) ∧ w'.cell? ⟨gf, k3, none⟩ = some uf ∧ w'.cell? ⟨gm, k3, none⟩ = some um)) (by kernel_rfl) ⟨q1, q2, q3⟩ (fun hHeld => ?_)
                    first | (refine wpAnyH_take (i := 0) (v := ?_) rfl (by kernel_rfl) (by kernel_rfl) (by kernel_rfl) (fun _ _ _ h => h) (Or.inl ⟨by rfl, ?_⟩) (by assumption) ?_; rotate_left 1; (focus (intro w hSw; (try dsimp only at hSw); go_simp; try with_reducible rfl)); (try simp only [List.getElem_toArray, List.getElem_cons_zero, List.getElem_cons_succ, Act.put, List.setIfInBounds_toArray, List.set_cons_zero, List.set_cons_succ])) | (refine wpAnyH_take (i := 0) (v := undef) rfl (by kernel_rfl) (by kernel_rfl) (by kernel_rfl) (fun _ _ _ h => h) (Or.inr ⟨by rfl, rfl⟩) (by assumption) ?_; (try simp only [List.getElem_toArray, List.getElem_cons_zero, List.getElem_cons_succ, Act.put, List.setIfInBounds_toArray, List.set_cons_zero, List.set_cons_succ]))
                    first | (refine wpAnyH_take (i := 1) (v := ?_) rfl (by kernel_rfl) (by kernel_rfl) (by kernel_rfl) (fun _ _ _ h => h) (Or.inl ⟨by rfl, ?_⟩) (by assumption) ?_; rotate_left 1; (focus (intro w hSw; (try dsimp only at hSw); go_simp; try with_reducible rfl)); (try simp only [List.getElem_toArray, List.getElem_cons_zero, List.getElem_cons_succ, Act.put, List.setIfInBounds_toArray, List.set_cons_zero, List.set_cons_succ])) | (refine wpAnyH_take (i := 1) (v := undef) rfl (by kernel_rfl) (by kernel_rfl) (by kernel_rfl) (fun _ _ _ h => h) (Or.inr ⟨by rfl, rfl⟩) (by assumption) ?_; (try simp only [List.getElem_toArray, List.getElem_cons_zero, List.getElem_cons_succ, Act.put, List.setIfInBounds_toArray, List.set_cons_zero, List.set_cons_succ]))
                    first | (refine wpAnyH_take (i := 2) (v := ?_) rfl (by kernel_rfl) (by kernel_rfl) (by kernel_rfl) (fun _ _ _ h => h) (Or.inl ⟨by rfl, ?_⟩) (by assumption) ?_; rotate_left 1; (focus (intro w hSw; (try dsimp only at hSw); go_simp; try with_reducible rfl)); (try simp only [List.getElem_toArray, List.getElem_cons_zero, List.getElem_cons_succ, Act.put, List.setIfInBounds_toArray, List.set_cons_zero, List.set_cons_succ])) | (refine wpAnyH_take (i := 2) (v := undef) rfl (by kernel_rfl) (by kernel_rfl) (by kernel_rfl) (fun _ _ _ h => h) (Or.inr ⟨by rfl, rfl⟩) (by assumption) ?_; (try simp only [List.getElem_toArray, List.getElem_cons_zero, List.getElem_cons_succ, Act.put, List.setIfInBounds_toArray, List.set_cons_zero, List.set_cons_succ]))
                    first | (refine wpAnyH_take (i := 3) (v := ?_) rfl (by kernel_rfl) (by kernel_rfl) (by kernel_rfl) (fun _ _ _ h => h) (Or.inl ⟨by rfl, ?_⟩) (by assumption) ?_; rotate_left 1; (focus (intro w hSw; (try dsimp only at hSw); go_simp; try with_reducible rfl)); (try simp only [List.getElem_toArray, List.getElem_cons_zero, List.getElem_cons_succ, Act.put, List.setIfInBounds_toArray, List.set_cons_zero, List.set_cons_succ])) | (refine wpAnyH_take (i := 3) (v := undef) rfl (by kernel_rfl) (by kernel_rfl) (by kernel_rfl) (fun _ _ _ h => h) (Or.inr ⟨by rfl, rfl⟩) (by assumption) ?_; (try simp only [List.getElem_toArray, List.getElem_cons_zero, List.getElem_cons_succ, Act.put, List.setIfInBounds_toArray, List.set_cons_zero, List.set_cons_succ]))
                    first | (refine wpAnyH_take (i := 4) (v := ?_) rfl (by kernel_rfl) (by kernel_rfl) (by kernel_rfl) (fun _ _ _ h => h) (Or.inl ⟨by rfl, ?_⟩) (by assumption) ?_; rotate_left 1; (focus (intro w hSw; (try dsimp only at hSw); go_simp; try with_reducible rfl)); (try simp only [List.getElem_toArray, List.getElem_cons_zero, List.getElem_cons_succ, Act.put, List.setIfInBounds_toArray, List.set_cons_zero, List.set_cons_succ])) | (refine wpAnyH_take (i := 4) (v := undef) rfl (by kernel_rfl) (by kernel_rfl) (by kernel_rfl) (fun _ _ _ h => h) (Or.inr ⟨by rfl, rfl⟩) (by assumption) ?_; (try simp only [List.getElem_toArray, List.getElem_cons_zero, List.getElem_cons_succ, Act.put, List.setIfInBounds_toArray, List.set_cons_zero, List.set_cons_succ]))
                    first | (refine wpAnyH_take (i := 5) (v := ?_) rfl (by kernel_rfl) (by kernel_rfl) (by kernel_rfl) (fun _ _ _ h => h) (Or.inl ⟨by rfl, ?_⟩) (by assumption) ?_; rotate_left 1; (focus (intro w hSw; (try dsimp only at hSw); go_simp; try with_reducible rfl)); (try simp only [List.getElem_toArray, List.getElem_cons_zero, List.getElem_cons_succ, Act.put, List.setIfInBounds_toArray, List.set_cons_zero, List.set_cons_succ])) | (refine wpAnyH_take (i := 5) (v := undef) rfl (by kernel_rfl) (by kernel_rfl) (by kernel_rfl) (fun _ _ _ h => h) (Or.inr ⟨by rfl, rfl⟩) (by assumption) ?_; (try simp only [List.getElem_toArray, List.getElem_cons_zero, List.getElem_cons_succ, Act.put, List.setIfInBounds_toArray, List.set_cons_zero, List.set_cons_succ]))
                    first | (refine wpAnyH_take (i := 6) (v := ?_) rfl (by kernel_rfl) (by kernel_rfl) (by kernel_rfl) (fun _ _ _ h => h) (Or.inl ⟨by rfl, ?_⟩) (by assumption) ?_; rotate_left 1; (focus (intro w hSw; (try dsimp only at hSw); go_simp; try with_reducible rfl)); (try simp only [List.getElem_toArray, List.getElem_cons_zero, List.getElem_cons_succ, Act.put, List.setIfInBounds_toArray, List.set_cons_zero, List.set_cons_succ])) | (refine wpAnyH_take (i := 6) (v := undef) rfl (by kernel_rfl) (by kernel_rfl) (by kernel_rfl) (fun _ _ _ h => h) (Or.inr ⟨by rfl, rfl⟩) (by assumption) ?_; (try simp only [List.getElem_toArray, List.getElem_cons_zero, List.getElem_cons_succ, Act.put, List.setIfInBounds_toArray, List.set_cons_zero, List.set_cons_succ]))
                    first | (refine wpAnyH_take (i := 7) (v := ?_) rfl (by kernel_rfl) (by kernel_rfl) (by kernel_rfl) (fun _ _ _ h => h) (Or.inl ⟨by rfl, ?_⟩) (by assumption) ?_; rotate_left 1; (focus (intro w hSw; (try dsimp only at hSw); go_simp; try with_reducible rfl)); (try simp only [List.getElem_toArray, List.getElem_cons_zero, List.getElem_cons_succ, Act.put, List.setIfInBounds_toArray, List.set_cons_zero, List.set_cons_succ])) | (refine wpAnyH_take (i := 7) (v := undef) rfl (by kernel_rfl) (by kernel_rfl) (by kernel_rfl) (fun _ _ _ h => h) (Or.inr ⟨by rfl, rfl⟩) (by assumption) ?_; (try simp only [List.getElem_toArray, List.getElem_cons_zero, List.getElem_cons_succ, Act.put, List.setIfInBounds_toArray, List.set_cons_zero, List.set_cons_succ]))
                    first | (refine wpAnyH_take (i := 8) (v := ?_) rfl (by kernel_rfl) (by kernel_rfl) (by kernel_rfl) (fun _ _ _ h => h) (Or.inl ⟨by rfl, ?_⟩) (by assumption) ?_; rotate_left 1; (focus (intro w hSw; (try dsimp only at hSw); go_simp; try with_reducible rfl)); (try simp only [List.getElem_toArray, List.getElem_cons_zero, List.getElem_cons_succ, Act.put, List.setIfInBounds_toArray, List.set_cons_zero, List.set_cons_succ])) | (refine wpAnyH_take (i := 8) (v := undef) rfl (by kernel_rfl) (by kernel_rfl) (by kernel_rfl) (fun _ _ _ h => h) (Or.inr ⟨by rfl, rfl⟩) (by assumption) ?_; (try simp only [List.getElem_toArray, List.getElem_cons_zero, List.getElem_cons_succ, Act.put, List.setIfInBounds_toArray, List.set_cons_zero, List.set_cons_succ]))
                    first | (refine wpAnyH_take (i := 9) (v := ?_) rfl (by kernel_rfl) (by kernel_rfl) (by kernel_rfl) (fun _ _ _ h => h) (Or.inl ⟨by rfl, ?_⟩) (by assumption) ?_; rotate_left 1; (focus (intro w hSw; (try dsimp only at hSw); go_simp; try with_reducible rfl)); (try simp only [List.getElem_toArray, List.getElem_cons_zero, List.getElem_cons_succ, Act.put, List.setIfInBounds_toArray, List.set_cons_zero, List.set_cons_succ])) | (refine wpAnyH_take (i := 9) (v := undef) rfl (by kernel_rfl) (by kernel_rfl) (by kernel_rfl) (fun _ _ _ h => h) (Or.inr ⟨by rfl, rfl⟩) (by assumption) ?_; (try simp only [List.getElem_toArray, List.getElem_cons_zero, List.getElem_cons_succ, Act.put, List.setIfInBounds_toArray, List.set_cons_zero, List.set_cons_succ]))
                    first | (refine wpAnyH_take (i := 10) (v := ?_) rfl (by kernel_rfl) (by kernel_rfl) (by kernel_rfl) (fun _ _ _ h => h) (Or.inl ⟨by rfl, ?_⟩) (by assumption) ?_; rotate_left 1; (focus (intro w hSw; (try dsimp only at hSw); go_simp; try with_reducible rfl)); (try simp only [List.getElem_toArray, List.getElem_cons_zero, List.getElem_cons_succ, Act.put, List.setIfInBounds_toArray, List.set_cons_zero, List.set_cons_succ])) | (refine wpAnyH_take (i := 10) (v := undef) rfl (by kernel_rfl) (by kernel_rfl) (by kernel_rfl) (fun _ _ _ h => h) (Or.inr ⟨by rfl, rfl⟩) (by assumption) ?_; (try simp only [List.getElem_toArray, List.getElem_cons_zero, List.getElem_cons_succ, Act.put, List.setIfInBounds_toArray, List.set_cons_zero, List.set_cons_succ]))
                    first | (refine wpAnyH_take (i := 11) (v := ?_) rfl (by kernel_rfl) (by kernel_rfl) (by kernel_rfl) (fun _ _ _ h => h) (Or.inl ⟨by rfl, ?_⟩) (by assumption) ?_; rotate_left 1; (focus (intro w hSw; (try dsimp only at hSw); go_simp; try with_reducible rfl)); (try simp only [List.getElem_toArray, List.getElem_cons_zero, List.getElem_cons_succ, Act.put, List.setIfInBounds_toArray, List.set_cons_zero, List.set_cons_succ])) | (refine wpAnyH_take (i := 11) (v := undef) rfl (by kernel_rfl) (by kernel_rfl) (by kernel_rfl) (fun _ _ _ h => h) (Or.inr ⟨by rfl, rfl⟩) (by assumption) ?_; (try simp only [List.getElem_toArray, List.getElem_cons_zero, List.getElem_cons_succ, Act.put, List.setIfInBounds_toArray, List.set_cons_zero, List.set_cons_succ]))
                    first | (refine wpAnyH_take (i := 12) (v := ?_) rfl (by kernel_rfl) (by kernel_rfl) (by kernel_rfl) (fun _ _ _ h => h) (Or.inl ⟨by rfl, ?_⟩) (by assumption) ?_; rotate_left 1; (focus (intro w hSw; (try dsimp only at hSw); go_simp; try with_reducible rfl)); (try simp only [List.getElem_toArray, List.getElem_cons_zero, List.getElem_cons_succ, Act.put, List.setIfInBounds_toArray, List.set_cons_zero, List.set_cons_succ])) | (refine wpAnyH_take (i := 12) (v := undef) rfl (by kernel_rfl) (by kernel_rfl) (by kernel_rfl) (fun _ _ _ h => h) (Or.inr ⟨by rfl, rfl⟩) (by assumption) ?_; (try simp only [List.getElem_toArray, List.getElem_cons_zero, List.getElem_cons_succ, Act.put, List.setIfInBounds_toArray, List.set_cons_zero, List.set_cons_succ]))
                    first | (refine wpAnyH_take (i := 13) (v := ?_) rfl (by kernel_rfl) (by kernel_rfl) (by kernel_rfl) (fun _ _ _ h => h) (Or.inl ⟨by rfl, ?_⟩) (by assumption) ?_; rotate_left 1; (focus (intro w hSw; (try dsimp only at hSw); go_simp; try with_reducible rfl)); (try simp only [List.getElem_toArray, List.getElem_cons_zero, List.getElem_cons_succ, Act.put, List.setIfInBounds_toArray, List.set_cons_zero, List.set_cons_succ])) | (refine wpAnyH_take (i := 13) (v := undef) rfl (by kernel_rfl) (by kernel_rfl) (by kernel_rfl) (fun _ _ _ h => h) (Or.inr ⟨by rfl, rfl⟩) (by assumption) ?_; (try simp only [List.getElem_toArray, List.getElem_cons_zero, List.getElem_cons_succ, Act.put, List.setIfInBounds_toArray, List.set_cons_zero, List.set_cons_succ]))
                    first | (refine wpAnyH_take (i := 14) (v := ?_) rfl (by kernel_rfl) (by kernel_rfl) (by kernel_rfl) (fun _ _ _ h => h) (Or.inl ⟨by rfl, ?_⟩) (by assumption) ?_; rotate_left 1; (focus (intro w hSw; (try dsimp only at hSw); go_simp; try with_reducible rfl)); (try simp only [List.getElem_toArray, List.getElem_cons_zero, List.getElem_cons_succ, Act.put, List.setIfInBounds_toArray, List.set_cons_zero, List.set_cons_succ])) | (refine wpAnyH_take (i := 14) (v := undef) rfl (by kernel_rfl) (by kernel_rfl) (by kernel_rfl) (fun _ _ _ h => h) (Or.inr ⟨by rfl, rfl⟩) (by assumption) ?_; (try simp only [List.getElem_toArray, List.getElem_cons_zero, List.getElem_cons_succ, Act.put, List.setIfInBounds_toArray, List.set_cons_zero, List.set_cons_succ]))
                    first | (refine wpAnyH_take (i := 15) (v := ?_) rfl (by kernel_rfl) (by kernel_rfl) (by kernel_rfl) (fun _ _ _ h => h) (Or.inl ⟨by rfl, ?_⟩) (by assumption) ?_; rotate_left 1; (focus (intro w hSw; (try dsimp only at hSw); go_simp; try with_reducible rfl)); (try simp only [List.getElem_toArray, List.getElem_cons_zero, List.getElem_cons_succ, Act.put, List.setIfInBounds_toArray, List.set_cons_zero, List.set_cons_succ])) | (refine wpAnyH_take (i := 15) (v := undef) rfl (by kernel_rfl) (by kernel_rfl) (by kernel_rfl) (fun _ _ _ h => h) (Or.inr ⟨by rfl, rfl⟩) (by assumption) ?_; (try simp only [List.getElem_toArray, List.getElem_cons_zero, List.getElem_cons_succ, Act.put, List.setIfInBounds_toArray, List.set_cons_zero, List.set_cons_succ]))
                    first | (refine wpAnyH_take (i := 16) (v := ?_) rfl (by kernel_rfl) (by kernel_rfl) (by kernel_rfl) (fun _ _ _ h => h) (Or.inl ⟨by rfl, ?_⟩) (by assumption) ?_; rotate_left 1; (focus (intro w hSw; (try dsimp only at hSw); go_simp; try with_reducible rfl)); (try simp only [List.getElem_toArray, List.getElem_cons_zero, List.getElem_cons_succ, Act.put, List.setIfInBounds_toArray, List.set_cons_zero, List.set_cons_succ])) | (refine wpAnyH_take (i := 16) (v := undef) rfl (by kernel_rfl) (by kernel_rfl) (by kernel_rfl) (fun _ _ _ h => h) (Or.inr ⟨by rfl, rfl⟩) (by assumption) ?_; (try simp only [List.getElem_toArray, List.getElem_cons_zero, List.getElem_cons_succ, Act.put, List.setIfInBounds_toArray, List.set_cons_zero, List.set_cons_succ]))
                    first | (refine wpAnyH_take (i := 17) (v := ?_) rfl (by kernel_rfl) (by kernel_rfl) (by kernel_rfl) (fun _ _ _ h => h) (Or.inl ⟨by rfl, ?_⟩) (by assumption) ?_; rotate_left 1; (focus (intro w hSw; (try dsimp only at hSw); go_simp; try with_reducible rfl)); (try simp only [List.getElem_toArray, List.getElem_cons_zero, List.getElem_cons_succ, Act.put, List.setIfInBounds_toArray, List.set_cons_zero, List.set_cons_succ])) | (refine wpAnyH_take (i := 17) (v := undef) rfl (by kernel_rfl) (by kernel_rfl) (by kernel_rfl) (fun _ _ _ h => h) (Or.inr ⟨by rfl, rfl⟩) (by assumption) ?_; (try simp only [List.getElem_toArray, List.getElem_cons_zero, List.getElem_cons_succ, Act.put, List.setIfInBounds_toArray, List.set_cons_zero, List.set_cons_succ]))
                    first | (refine wpAnyH_take (i := 18) (v := ?_) rfl (by kernel_rfl) (by kernel_rfl) (by kernel_rfl) (fun _ _ _ h => h) (Or.inl ⟨by rfl, ?_⟩) (by assumption) ?_; rotate_left 1; (focus (intro w hSw; (try dsimp only at hSw); go_simp; try with_reducible rfl)); (try simp only [List.getElem_toArray, List.getElem_cons_zero, List.getElem_cons_succ, Act.put, List.setIfInBounds_toArray, List.set_cons_zero, List.set_cons_succ])) | (refine wpAnyH_take (i := 18) (v := undef) rfl (by kernel_rfl) (by kernel_rfl) (by kernel_rfl) (fun _ _ _ h => h) (Or.inr ⟨by rfl, rfl⟩) (by assumption) ?_; (try simp only [List.getElem_toArray, List.getElem_cons_zero, List.getElem_cons_succ, Act.put, List.setIfInBounds_toArray, List.set_cons_zero, List.set_cons_succ]))
                    first | (refine wpAnyH_take (i := 19) (v := ?_) rfl (by kernel_rfl) (by kernel_rfl) (by kernel_rfl) (fun _ _ _ h => h) (Or.inl ⟨by rfl, ?_⟩) (by assumption) ?_; rotate_left 1; (focus (intro w hSw; (try dsimp only at hSw); go_simp; try with_reducible rfl)); (try simp only [List.getElem_toArray, List.getElem_cons_zero, List.getElem_cons_succ, Act.put, List.setIfInBounds_toArray, List.set_cons_zero, List.set_cons_succ])) | (refine wpAnyH_take (i := 19) (v := undef) rfl (by kernel_rfl) (by kernel_rfl) (by kernel_rfl) (fun _ _ _ h => h) (Or.inr ⟨by rfl, rfl⟩) (by assumption) ?_; (try simp only [List.getElem_toArray, List.getElem_cons_zero, List.getElem_cons_succ, Act.put, List.setIfInBounds_toArray, List.set_cons_zero, List.set_cons_succ]))
                    first | (refine wpAnyH_take (i := 20) (v := ?_) rfl (by kernel_rfl) (by kernel_rfl) (by kernel_rfl) (fun _ _ _ h => h) (Or.inl ⟨by rfl, ?_⟩) (by assumption) ?_; rotate_left 1; (focus (intro w hSw; (try dsimp only at hSw); go_simp; try with_reducible rfl)); (try simp only [List.getElem_toArray, List.getElem_cons_zero, List.getElem_cons_succ, Act.put, List.setIfInBounds_toArray, List.set_cons_zero, List.set_cons_succ])) | (refine wpAnyH_take (i := 20) (v := undef) rfl (by kernel_rfl) (by kernel_rfl) (by kernel_rfl) (fun _ _ _ h => h) (Or.inr ⟨by rfl, rfl⟩) (by assumption) ?_; (try simp only [List.getElem_toArray, List.getElem_cons_zero, List.getElem_cons_succ, Act.put, List.setIfInBounds_toArray, List.set_cons_zero, List.set_cons_succ]))
                    first | (refine wpAnyH_take (i := 21) (v := ?_) rfl (by kernel_rfl) (by kernel_rfl) (by kernel_rfl) (fun _ _ _ h => h) (Or.inl ⟨by rfl, ?_⟩) (by assumption) ?_; rotate_left 1; (focus (intro w hSw; (try dsimp only at hSw); go_simp; try with_reducible rfl)); (try simp only [List.getElem_toArray, List.getElem_cons_zero, List.getElem_cons_succ, Act.put, List.setIfInBounds_toArray, List.set_cons_zero, List.set_cons_succ])) | (refine wpAnyH_take (i := 21) (v := undef) rfl (by kernel_rfl) (by kernel_rfl) (by kernel_rfl) (fun _ _ _ h => h) (Or.inr ⟨by rfl, rfl⟩) (by assumption) ?_; (try simp only [List.getElem_toArray, List.getElem_cons_zero, List.getElem_cons_succ, Act.put, List.setIfInBounds_toArray, List.set_cons_zero, List.set_cons_succ]))
                    first | (refine wpAnyH_take (i := 22) (v := ?_) rfl (by kernel_rfl) (by kernel_rfl) (by kernel_rfl) (fun _ _ _ h => h) (Or.inl ⟨by rfl, ?_⟩) (by assumption) ?_; rotate_left 1; (focus (intro w hSw; (try dsimp only at hSw); go_simp; try with_reducible rfl)); (try simp only [List.getElem_toArray, List.getElem_cons_zero, List.getElem_cons_succ, Act.put, List.setIfInBounds_toArray, List.set_cons_zero, List.set_cons_succ])) | (refine wpAnyH_take (i := 22) (v := undef) rfl (by kernel_rfl) (by kernel_rfl) (by kernel_rfl) (fun _ _ _ h => h) (Or.inr ⟨by rfl, rfl⟩) (by assumption) ?_; (try simp only [List.getElem_toArray, List.getElem_cons_zero, List.getElem_cons_succ, Act.put, List.setIfInBounds_toArray, List.set_cons_zero, List.set_cons_succ]))
                    first | (refine wpAnyH_take (i := 23) (v := ?_) rfl (by kernel_rfl) (by kernel_rfl) (by kernel_rfl) (fun _ _ _ h => h) (Or.inl ⟨by rfl, ?_⟩) (by assumption) ?_; rotate_left 1; (focus (intro w hSw; (try dsimp only at hSw); go_simp; try with_reducible rfl)); (try simp only [List.getElem_toArray, List.getElem_cons_zero, List.getElem_cons_succ, Act.put, List.setIfInBounds_toArray, List.set_cons_zero, List.set_cons_succ])) | (refine wpAnyH_take (i := 23) (v := undef) rfl (by kernel_rfl) (by kernel_rfl) (by kernel_rfl) (fun _ _ _ h => h) (Or.inr ⟨by rfl, rfl⟩) (by assumption) ?_; (try simp only [List.getElem_toArray, List.getElem_cons_zero, List.getElem_cons_succ, Act.put, List.setIfInBounds_toArray, List.set_cons_zero, List.set_cons_succ]))
                    first | (refine wpAnyH_take (i := 24) (v := ?_) rfl (by kernel_rfl) (by kernel_rfl) (by kernel_rfl) (fun _ _ _ h => h) (Or.inl ⟨by rfl, ?_⟩) (by assumption) ?_; rotate_left 1; (focus (intro w hSw; (try dsimp only at hSw); go_simp; try with_reducible rfl)); (try simp only [List.getElem_toArray, List.getElem_cons_zero, List.getElem_cons_succ, Act.put, List.setIfInBounds_toArray, List.set_cons_zero, List.set_cons_succ])) | (refine wpAnyH_take (i := 24) (v := undef) rfl (by kernel_rfl) (by kernel_rfl) (by kernel_rfl) (fun _ _ _ h => h) (Or.inr ⟨by rfl, rfl⟩) (by assumption) ?_; (try simp only [List.getElem_toArray, List.getElem_cons_zero, List.getElem_cons_succ, Act.put, List.setIfInBounds_toArray, List.set_cons_zero, List.set_cons_succ]))
                    first | (refine wpAnyH_take (i := 25) (v := ?_) rfl (by kernel_rfl) (by kernel_rfl) (by kernel_rfl) (fun _ _ _ h => h) (Or.inl ⟨by rfl, ?_⟩) (by assumption) ?_; rotate_left 1; (focus (intro w hSw; (try dsimp only at hSw); go_simp; try with_reducible rfl)); (try simp only [List.getElem_toArray, List.getElem_cons_zero, List.getElem_cons_succ, Act.put, List.setIfInBounds_toArray, List.set_cons_zero, List.set_cons_succ])) | (refine wpAnyH_take (i := 25) (v := undef) rfl (by kernel_rfl) (by kernel_rfl) (by kernel_rfl) (fun _ _ _ h => h) (Or.inr ⟨by rfl, rfl⟩) (by assumption) ?_; (try simp only [List.getElem_toArray, List.getElem_cons_zero, List.getElem_cons_succ, Act.put, List.setIfInBounds_toArray, List.set_cons_zero, List.set_cons_succ]))
                    first | (refine wpAnyH_take (i := 26) (v := ?_) rfl (by kernel_rfl) (by kernel_rfl) (by kernel_rfl) (fun _ _ _ h => h) (Or.inl ⟨by rfl, ?_⟩) (by assumption) ?_; rotate_left 1; (focus (intro w hSw; (try dsimp only at hSw); go_simp; try with_reducible rfl)); (try simp only [List.getElem_toArray, List.getElem_cons_zero, List.getElem_cons_succ, Act.put, List.setIfInBounds_toArray, List.set_cons_zero, List.set_cons_succ])) | (refine wpAnyH_take (i := 26) (v := undef) rfl (by kernel_rfl) (by kernel_rfl) (by kernel_rfl) (fun _ _ _ h => h) (Or.inr ⟨by rfl, rfl⟩) (by assumption) ?_; (try simp only [List.getElem_toArray, List.getElem_cons_zero, List.getElem_cons_succ, Act.put, List.setIfInBounds_toArray, List.set_cons_zero, List.set_cons_succ]))
                    first | (refine wpAnyH_take (i := 27) (v := ?_) rfl (by kernel_rfl) (by kernel_rfl) (by kernel_rfl) (fun _ _ _ h => h) (Or.inl ⟨by rfl, ?_⟩) (by assumption) ?_; rotate_left 1; (focus (intro w hSw; (try dsimp only at hSw); go_simp; try with_reducible rfl)); (try simp only [List.getElem_toArray, List.getElem_cons_zero, List.getElem_cons_succ, Act.put, List.setIfInBounds_toArray, List.set_cons_zero, List.set_cons_succ])) | (refine wpAnyH_take (i := 27) (v := undef) rfl (by kernel_rfl) (by kernel_rfl) (by kernel_rfl) (fun _ _ _ h => h) (Or.inr ⟨by rfl, rfl⟩) (by assumption) ?_; (try simp only [List.getElem_toArray, List.getElem_cons_zero, List.getElem_cons_succ, Act.put, List.setIfInBounds_toArray, List.set_cons_zero, List.set_cons_succ]))
                    first | (refine wpAnyH_take (i := 28) (v := ?_) rfl (by kernel_rfl) (by kernel_rfl) (by kernel_rfl) (fun _ _ _ h => h) (Or.inl ⟨by rfl, ?_⟩) (by assumption) ?_; rotate_left 1; (focus (intro w hSw; (try dsimp only at hSw); go_simp; try with_reducible rfl)); (try simp only [List.getElem_toArray, List.getElem_cons_zero, List.getElem_cons_succ, Act.put, List.setIfInBounds_toArray, List.set_cons_zero, List.set_cons_succ])) | (refine wpAnyH_take (i := 28) (v := undef) rfl (by kernel_rfl) (by kernel_rfl) (by kernel_rfl) (fun _ _ _ h => h) (Or.inr ⟨by rfl, rfl⟩) (by assumption) ?_; (try simp only [List.getElem_toArray, List.getElem_cons_zero, List.getElem_cons_succ, Act.put, List.setIfInBounds_toArray, List.set_cons_zero, List.set_cons_succ]))
                    first | (refine wpAnyH_take (i := 29) (v := ?_) rfl (by kernel_rfl) (by kernel_rfl) (by kernel_rfl) (fun _ _ _ h => h) (Or.inl ⟨by rfl, ?_⟩) (by assumption) ?_; rotate_left 1; (focus (intro w hSw; (try dsimp only at hSw); go_simp; try with_reducible rfl)); (try simp only [List.getElem_toArray, List.getElem_cons_zero, List.getElem_cons_succ, Act.put, List.setIfInBounds_toArray, List.set_cons_zero, List.set_cons_succ])) | (refine wpAnyH_take (i := 29) (v := undef) rfl (by kernel_rfl) (by kernel_rfl) (by kernel_rfl) (fun _ _ _ h => h) (Or.inr ⟨by rfl, rfl⟩) (by assumption) ?_; (try simp only [List.getElem_toArray, List.getElem_cons_zero, List.getElem_cons_succ, Act.put, List.setIfInBounds_toArray, List.set_cons_zero, List.set_cons_succ]))
                    first | (refine wpAnyH_take (i := 30) (v := ?_) rfl (by kernel_rfl) (by kernel_rfl) (by kernel_rfl) (fun _ _ _ h => h) (Or.inl ⟨by rfl, ?_⟩) (by assumption) ?_; rotate_left 1; (focus (intro w hSw; (try dsimp only at hSw); go_simp; try with_reducible rfl)); (try simp only [List.getElem_toArray, List.getElem_cons_zero, List.getElem_cons_succ, Act.put, List.setIfInBounds_toArray, List.set_cons_zero, List.set_cons_succ])) | (refine wpAnyH_take (i := 30) (v := undef) rfl (by kernel_rfl) (by kernel_rfl) (by kernel_rfl) (fun _ _ _ h => h) (Or.inr ⟨by rfl, rfl⟩) (by assumption) ?_; (try simp only [List.getElem_toArray, List.getElem_cons_zero, List.getElem_cons_succ, Act.put, List.setIfInBounds_toArray, List.set_cons_zero, List.set_cons_succ]))
                    first | (refine wpAnyH_take (i := 31) (v := ?_) rfl (by kernel_rfl) (by kernel_rfl) (by kernel_rfl) (fun _ _ _ h => h) (Or.inl ⟨by rfl, ?_⟩) (by assumption) ?_; rotate_left 1; (focus (intro w hSw; (try dsimp only at hSw); go_simp; try with_reducible rfl)); (try simp only [List.getElem_toArray, List.getElem_cons_zero, List.getElem_cons_succ, Act.put, List.setIfInBounds_toArray, List.set_cons_zero, List.set_cons_succ])) | (refine wpAnyH_take (i := 31) (v := undef) rfl (by kernel_rfl) (by kernel_rfl) (by kernel_rfl) (fun _ _ _ h => h) (Or.inr ⟨by rfl, rfl⟩) (by assumption) ?_; (try simp only [List.getElem_toArray, List.getElem_cons_zero, List.getElem_cons_succ, Act.put, List.setIfInBounds_toArray, List.set_cons_zero, List.set_cons_succ]))
                    first | (refine wpAnyH_take (i := 32) (v := ?_) rfl (by kernel_rfl) (by kernel_rfl) (by kernel_rfl) (fun _ _ _ h => h) (Or.inl ⟨by rfl, ?_⟩) (by assumption) ?_; rotate_left 1; (focus (intro w hSw; (try dsimp only at hSw); go_simp; try with_reducible rfl)); (try simp only [List.getElem_toArray, List.getElem_cons_zero, List.getElem_cons_succ, Act.put, List.setIfInBounds_toArray, List.set_cons_zero, List.set_cons_succ])) | (refine wpAnyH_take (i := 32) (v := undef) rfl (by kernel_rfl) (by kernel_rfl) (by kernel_rfl) (fun _ _ _ h => h) (Or.inr ⟨by rfl, rfl⟩) (by assumption) ?_; (try simp only [List.getElem_toArray, List.getElem_cons_zero, List.getElem_cons_succ, Act.put, List.setIfInBounds_toArray, List.set_cons_zero, List.set_cons_succ]))
                    first | (refine wpAnyH_take (i := 33) (v := ?_) rfl (by kernel_rfl) (by kernel_rfl) (by kernel_rfl) (fun _ _ _ h => h) (Or.inl ⟨by rfl, ?_⟩) (by assumption) ?_; rotate_left 1; (focus (intro w hSw; (try dsimp only at hSw); go_simp; try with_reducible rfl)); (try simp only [List.getElem_toArray, List.getElem_cons_zero, List.getElem_cons_succ, Act.put, List.setIfInBounds_toArray, List.set_cons_zero, List.set_cons_succ])) | (refine wpAnyH_take (i := 33) (v := undef) rfl (by kernel_rfl) (by kernel_rfl) (by kernel_rfl) (fun _ _ _ h => h) (Or.inr ⟨by rfl, rfl⟩) (by assumption) ?_; (try simp only [List.getElem_toArray, List.getElem_cons_zero, List.getElem_cons_succ, Act.put, List.setIfInBounds_toArray, List.set_cons_zero, List.set_cons_succ]))
                    refine wpAnyH_done (by kernel_rfl) ?_ _
                    go_wp2_with fail
                    exact ⟨⟨k3 + 1, by omega, by simp, HBW.out.drew⟩, by simp [intOf]; omega⟩
                  · have hne : (i != id) = true := by simpa using hii
                    have he1 := (HFI.out hii).1
                    have he2 := (HFI.out hii).2
                    obtain ⟨_, l2, l3, _⟩ := hsz1
                    go_wp2_with fail
                    refine wp_region_held_drew (S := (fun w' => w'.cell? ⟨g, k3, none⟩ = some (.int .i64 i) ∧ w'.cell? ⟨gf, k3, none⟩ = some uf ∧ w'.cell? ⟨gm, k3, none⟩ = some um)) (by kernel_rfl) ⟨q1, q2, q3⟩ (fun hHeld => ?_)
                    first | (refine wpAnyH_take (i := 0) (v := ?_) rfl (by kernel_rfl) (by kernel_rfl) (by kernel_rfl) (fun _ _ _ h => h) (Or.inl ⟨by rfl, ?_⟩) (by assumption) ?_; rotate_left 1; (focus (intro w hSw; (try dsimp only at hSw); go_simp; try with_reducible rfl)); (try simp only [List.getElem_toArray, List.getElem_cons_zero, List.getElem_cons_succ, Act.put, List.setIfInBounds_toArray, List.set_cons_zero, List.set_cons_succ])) | (refine wpAnyH_take (i := 0) (v := undef) rfl (by kernel_rfl) (by kernel_rfl) (by kernel_rfl) (fun _ _ _ h => h) (Or.inr ⟨by rfl, rfl⟩) (by assumption) ?_; (try simp only [List.getElem_toArray, List.getElem_cons_zero, List.getElem_cons_succ, Act.put, List.setIfInBounds_toArray, List.set_cons_zero, List.set_cons_succ]))
                    first | (refine wpAnyH_take (i := 1) (v := ?_) rfl (by kernel_rfl) (by kernel_rfl) (by kernel_rfl) (fun _ _ _ h => h) (Or.inl ⟨by rfl, ?_⟩) (by assumption) ?_; rotate_left 1; (focus (intro w hSw; (try dsimp only at hSw); go_simp; try with_reducible rfl)); (try simp only [List.getElem_toArray, List.getElem_cons_zero, List.getElem_cons_succ, Act.put, List.setIfInBounds_toArray, List.set_cons_zero, List.set_cons_succ])) | (refine wpAnyH_take (i := 1) (v := undef) rfl (by kernel_rfl) (by kernel_rfl) (by kernel_rfl) (fun _ _ _ h => h) (Or.inr ⟨by rfl, rfl⟩) (by assumption) ?_; (try simp only [List.getElem_toArray, List.getElem_cons_zero, List.getElem_cons_succ, Act.put, List.setIfInBounds_toArray, List.set_cons_zero, List.set_cons_succ]))
                    first | (refine wpAnyH_take (i := 2) (v := ?_) rfl (by kernel_rfl) (by kernel_rfl) (by kernel_rfl) (fun _ _ _ h => h) (Or.inl ⟨by rfl, ?_⟩) (by assumption) ?_; rotate_left 1; (focus (intro w hSw; (try dsimp only at hSw); go_simp; try with_reducible rfl)); (try simp only [List.getElem_toArray, List.getElem_cons_zero, List.getElem_cons_succ, Act.put, List.setIfInBounds_toArray, List.set_cons_zero, List.set_cons_succ])) | (refine wpAnyH_take (i := 2) (v := undef) rfl (by kernel_rfl) (by kernel_rfl) (by kernel_rfl) (fun _ _ _ h => h) (Or.inr ⟨by rfl, rfl⟩) (by assumption) ?_; (try simp only [List.getElem_toArray, List.getElem_cons_zero, List.getElem_cons_succ, Act.put, List.setIfInBounds_toArray, List.set_cons_zero, List.set_cons_succ]))
                    first | (refine wpAnyH_take (i := 3) (v := ?_) rfl (by kernel_rfl) (by kernel_rfl) (by kernel_rfl) (fun _ _ _ h => h) (Or.inl ⟨by rfl, ?_⟩) (by assumption) ?_; rotate_left 1; (focus (intro w hSw; (try dsimp only at hSw); go_simp; try with_reducible rfl)); (try simp only [List.getElem_toArray, List.getElem_cons_zero, List.getElem_cons_succ, Act.put, List.setIfInBounds_toArray, List.set_cons_zero, List.set_cons_succ])) | (refine wpAnyH_take (i := 3) (v := undef) rfl (by kernel_rfl) (by kernel_rfl) (by kernel_rfl) (fun _ _ _ h => h) (Or.inr ⟨by rfl, rfl⟩) (by assumption) ?_; (try simp only [List.getElem_toArray, List.getElem_cons_zero, List.getElem_cons_succ, Act.put, List.setIfInBounds_toArray, List.set_cons_zero, List.set_cons_succ]))
                    first | (refine wpAnyH_take (i := 4) (v := ?_) rfl (by kernel_rfl) (by kernel_rfl) (by kernel_rfl) (fun _ _ _ h => h) (Or.inl ⟨by rfl, ?_⟩) (by assumption) ?_; rotate_left 1; (focus (intro w hSw; (try dsimp only at hSw); go_simp; try with_reducible rfl)); (try simp only [List.getElem_toArray, List.getElem_cons_zero, List.getElem_cons_succ, Act.put, List.setIfInBounds_toArray, List.set_cons_zero, List.set_cons_succ])) | (refine wpAnyH_take (i := 4) (v := undef) rfl (by kernel_rfl) (by kernel_rfl) (by kernel_rfl) (fun _ _ _ h => h) (Or.inr ⟨by rfl, rfl⟩) (by assumption) ?_; (try simp only [List.getElem_toArray, List.getElem_cons_zero, List.getElem_cons_succ, Act.put, List.setIfInBounds_toArray, List.set_cons_zero, List.set_cons_succ]))
                    first | (refine wpAnyH_take (i := 5) (v := ?_) rfl (by kernel_rfl) (by kernel_rfl) (by kernel_rfl) (fun _ _ _ h => h) (Or.inl ⟨by rfl, ?_⟩) (by assumption) ?_; rotate_left 1; (focus (intro w hSw; (try dsimp only at hSw); go_simp; try with_reducible rfl)); (try simp only [List.getElem_toArray, List.getElem_cons_zero, List.getElem_cons_succ, Act.put, List.setIfInBounds_toArray, List.set_cons_zero, List.set_cons_succ])) | (refine wpAnyH_take (i := 5) (v := undef) rfl (by kernel_rfl) (by kernel_rfl) (by kernel_rfl) (fun _ _ _ h => h) (Or.inr ⟨by rfl, rfl⟩) (by assumption) ?_; (try simp only [List.getElem_toArray, List.getElem_cons_zero, List.getElem_cons_succ, Act.put, List.setIfInBounds_toArray, List.set_cons_zero, List.set_cons_succ]))
                    first | (refine wpAnyH_take (i := 6) (v := ?_) rfl (by kernel_rfl) (by kernel_rfl) (by kernel_rfl) (fun _ _ _ h => h) (Or.inl ⟨by rfl, ?_⟩) (by assumption) ?_; rotate_left 1; (focus (intro w hSw; (try dsimp only at hSw); go_simp; try with_reducible rfl)); (try simp only [List.getElem_toArray, List.getElem_cons_zero, List.getElem_cons_succ, Act.put, List.setIfInBounds_toArray, List.set_cons_zero, List.set_cons_succ])) | (refine wpAnyH_take (i := 6) (v := undef) rfl (by kernel_rfl) (by kernel_rfl) (by kernel_rfl) (fun _ _ _ h => h) (Or.inr ⟨by rfl, rfl⟩) (by assumption) ?_; (try simp only [List.getElem_toArray, List.getElem_cons_zero, List.getElem_cons_succ, Act.put, List.setIfInBounds_toArray, List.set_cons_zero, List.set_cons_succ]))
                    first | (refine wpAnyH_take (i := 7) (v := ?_) rfl (by kernel_rfl) (by kernel_rfl) (by kernel_rfl) (fun _ _ _ h => h) (Or.inl ⟨by rfl, ?_⟩) (by assumption) ?_; rotate_left 1; (focus (intro w hSw; (try dsimp only at hSw); go_simp; try with_reducible rfl)); (try simp only [List.getElem_toArray, List.getElem_cons_zero, List.getElem_cons_succ, Act.put, List.setIfInBounds_toArray, List.set_cons_zero, List.set_cons_succ])) | (refine wpAnyH_take (i := 7) (v := undef) rfl (by kernel_rfl) (by kernel_rfl) (by kernel_rfl) (fun _ _ _ h => h) (Or.inr ⟨by rfl, rfl⟩) (by assumption) ?_; (try simp only [List.getElem_toArray, List.getElem_cons_zero, List.getElem_cons_succ, Act.put, List.setIfInBounds_toArray, List.set_cons_zero, List.set_cons_succ]))
                    first | (refine wpAnyH_take (i := 8) (v := ?_) rfl (by kernel_rfl) (by kernel_rfl) (by kernel_rfl) (fun _ _ _ h => h) (Or.inl ⟨by rfl, ?_⟩) (by assumption) ?_; rotate_left 1; (focus (intro w hSw; (try dsimp only at hSw); go_simp; try with_reducible rfl)); (try simp only [List.getElem_toArray, List.getElem_cons_zero, List.getElem_cons_succ, Act.put, List.setIfInBounds_toArray, List.set_cons_zero, List.set_cons_succ])) | (refine wpAnyH_take (i := 8) (v := undef) rfl (by kernel_rfl) (by kernel_rfl) (by kernel_rfl) (fun _ _ _ h => h) (Or.inr ⟨by rfl, rfl⟩) (by assumption) ?_; (try simp only [List.getElem_toArray, List.getElem_cons_zero, List.getElem_cons_succ, Act.put, List.setIfInBounds_toArray, List.set_cons_zero, List.set_cons_succ]))
                    first | (refine wpAnyH_take (i := 9) (v := ?_) rfl (by kernel_rfl) (by kernel_rfl) (by kernel_rfl) (fun _ _ _ h => h) (Or.inl ⟨by rfl, ?_⟩) (by assumption) ?_; rotate_left 1; (focus (intro w hSw; (try dsimp only at hSw); go_simp; try with_reducible rfl)); (try simp only [List.getElem_toArray, List.getElem_cons_zero, List.getElem_cons_succ, Act.put, List.setIfInBounds_toArray, List.set_cons_zero, List.set_cons_succ])) | (refine wpAnyH_take (i := 9) (v := undef) rfl (by kernel_rfl) (by kernel_rfl) (by kernel_rfl) (fun _ _ _ h => h) (Or.inr ⟨by rfl, rfl⟩) (by assumption) ?_; (try simp only [List.getElem_toArray, List.getElem_cons_zero, List.getElem_cons_succ, Act.put, List.setIfInBounds_toArray, List.set_cons_zero, List.set_cons_succ]))
                    first | (refine wpAnyH_take (i := 10) (v := ?_) rfl (by kernel_rfl) (by kernel_rfl) (by kernel_rfl) (fun _ _ _ h => h) (Or.inl ⟨by rfl, ?_⟩) (by assumption) ?_; rotate_left 1; (focus (intro w hSw; (try dsimp only at hSw); go_simp; try with_reducible rfl)); (try simp only [List.getElem_toArray, List.getElem_cons_zero, List.getElem_cons_succ, Act.put, List.setIfInBounds_toArray, List.set_cons_zero, List.set_cons_succ])) | (refine wpAnyH_take (i := 10) (v := undef) rfl (by kernel_rfl) (by kernel_rfl) (by kernel_rfl) (fun _ _ _ h => h) (Or.inr ⟨by rfl, rfl⟩) (by assumption) ?_; (try simp only [List.getElem_toArray, List.getElem_cons_zero, List.getElem_cons_succ, Act.put, List.setIfInBounds_toArray, List.set_cons_zero, List.set_cons_succ]))
                    first | (refine wpAnyH_take (i := 11) (v := ?_) rfl (by kernel_rfl) (by kernel_rfl) (by kernel_rfl) (fun _ _ _ h => h) (Or.inl ⟨by rfl, ?_⟩) (by assumption) ?_; rotate_left 1; (focus (intro w hSw; (try dsimp only at hSw); go_simp; try with_reducible rfl)); (try simp only [List.getElem_toArray, List.getElem_cons_zero, List.getElem_cons_succ, Act.put, List.setIfInBounds_toArray, List.set_cons_zero, List.set_cons_succ])) | (refine wpAnyH_take (i := 11) (v := undef) rfl (by kernel_rfl) (by kernel_rfl) (by kernel_rfl) (fun _ _ _ h => h) (Or.inr ⟨by rfl, rfl⟩) (by assumption) ?_; (try simp only [List.getElem_toArray, List.getElem_cons_zero, List.getElem_cons_succ, Act.put, List.setIfInBounds_toArray, List.set_cons_zero, List.set_cons_succ]))
                    first | (refine wpAnyH_take (i := 13) (v := ?_) rfl (by kernel_rfl) (by kernel_rfl) (by kernel_rfl) (fun _ _ _ h => h) (Or.inl ⟨by rfl, ?_⟩) (by assumption) ?_; rotate_left 1; (focus (intro w hSw; (try dsimp only at hSw); go_simp; try with_reducible rfl)); (try simp only [List.getElem_toArray, List.getElem_cons_zero, List.getElem_cons_succ, Act.put, List.setIfInBounds_toArray, List.set_cons_zero, List.set_cons_succ])) | (refine wpAnyH_take (i := 13) (v := undef) rfl (by kernel_rfl) (by kernel_rfl) (by kernel_rfl) (fun _ _ _ h => h) (Or.inr ⟨by rfl, rfl⟩) (by assumption) ?_; (try simp only [List.getElem_toArray, List.getElem_cons_zero, List.getElem_cons_succ, Act.put, List.setIfInBounds_toArray, List.set_cons_zero, List.set_cons_succ]))
                    first | (refine wpAnyH_take (i := 14) (v := ?_) rfl (by kernel_rfl) (by kernel_rfl) (by kernel_rfl) (fun _ _ _ h => h) (Or.inl ⟨by rfl, ?_⟩) (by assumption) ?_; rotate_left 1; (focus (intro w hSw; (try dsimp only at hSw); go_simp; try with_reducible rfl)); (try simp only [List.getElem_toArray, List.getElem_cons_zero, List.getElem_cons_succ, Act.put, List.setIfInBounds_toArray, List.set_cons_zero, List.set_cons_succ])) | (refine wpAnyH_take (i := 14) (v := undef) rfl (by kernel_rfl) (by kernel_rfl) (by kernel_rfl) (fun _ _ _ h => h) (Or.inr ⟨by rfl, rfl⟩) (by assumption) ?_; (try simp only [List.getElem_toArray, List.getElem_cons_zero, List.getElem_cons_succ, Act.put, List.setIfInBounds_toArray, List.set_cons_zero, List.set_cons_succ]))
                    first | (refine wpAnyH_take (i := 15) (v := ?_) rfl (by kernel_rfl) (by kernel_rfl) (by kernel_rfl) (fun _ _ _ h => h) (Or.inl ⟨by rfl, ?_⟩) (by assumption) ?_; rotate_left 1; (focus (intro w hSw; (try dsimp only at hSw); go_simp; try with_reducible rfl)); (try simp only [List.getElem_toArray, List.getElem_cons_zero, List.getElem_cons_succ, Act.put, List.setIfInBounds_toArray, List.set_cons_zero, List.set_cons_succ])) | (refine wpAnyH_take (i := 15) (v := undef) rfl (by kernel_rfl) (by kernel_rfl) (by kernel_rfl) (fun _ _ _ h => h) (Or.inr ⟨by rfl, rfl⟩) (by assumption) ?_; (try simp only [List.getElem_toArray, List.getElem_cons_zero, List.getElem_cons_succ, Act.put, List.setIfInBounds_toArray, List.set_cons_zero, List.set_cons_succ]))
                    first | (refine wpAnyH_take (i := 16) (v := ?_) rfl (by kernel_rfl) (by kernel_rfl) (by kernel_rfl) (fun _ _ _ h => h) (Or.inl ⟨by rfl, ?_⟩) (by assumption) ?_; rotate_left 1; (focus (intro w hSw; (try dsimp only at hSw); go_simp; try with_reducible rfl)); (try simp only [List.getElem_toArray, List.getElem_cons_zero, List.getElem_cons_succ, Act.put, List.setIfInBounds_toArray, List.set_cons_zero, List.set_cons_succ])) | (refine wpAnyH_take (i := 16) (v := undef) rfl (by kernel_rfl) (by kernel_rfl) (by kernel_rfl) (fun _ _ _ h => h) (Or.inr ⟨by rfl, rfl⟩) (by assumption) ?_; (try simp only [List.getElem_toArray, List.getElem_cons_zero, List.getElem_cons_succ, Act.put, List.setIfInBounds_toArray, List.set_cons_zero, List.set_cons_succ]))
                    refine wpAnyH_ready (rs := [12]) (by kernel_rfl) (by simp) ?_
                    refine AllReadyH.cons rfl (fun K hK => ?_) AllReadyH.nil
                    go_simp
                    go_at_call 22; refine (filters_st HSW.out i hir).mono ?_; rw [he1]; rintro e x1 ⟨⟨y1, rfl, hy1⟩, hx1⟩
                    refine hK.out _ _ ⟨below_cell hx1 q1, below_cell hx1 q2, below_cell hx1 q3⟩ (fun hHeld => ?_)
                    clear hK K
                    try simp only [List.getElem_toArray, List.getElem_cons_zero, List.getElem_cons_succ, Act.put, List.setIfInBounds_toArray, List.set_cons_zero, List.set_cons_succ]
                    refine wpAnyH_ready (rs := [17]) (by kernel_rfl) (by simp) ?_
                    refine AllReadyH.cons rfl (fun K hK => ?_) AllReadyH.nil
                    go_simp
                    go_at_call 32; refine (same_any _ _ _ _ _ (own_at hy1) ((HUF.out.below hx1).mono hx1.size) (by omega) (by omega)).mono ?_; rw [dec_self]; rintro e x2 ⟨rfl, hx2⟩; have hx12 := below_go hx1 hx2
                    refine hK.out _ _ ⟨below_cell hx12 q1, below_cell hx12 q2, below_cell hx12 q3⟩ (fun hHeld => ?_)
                    clear hK K
                    try simp only [List.getElem_toArray, List.getElem_cons_zero, List.getElem_cons_succ, Act.put, List.setIfInBounds_toArray, List.set_cons_zero, List.set_cons_succ]
                    first | (refine wpAnyH_take (i := 18) (v := ?_) rfl (by kernel_rfl) (by kernel_rfl) (by kernel_rfl) (fun _ _ _ h => h) (Or.inl ⟨by rfl, ?_⟩) (by assumption) ?_; rotate_left 1; (focus (intro w hSw; (try dsimp only at hSw); go_simp; try with_reducible rfl)); (try simp only [List.getElem_toArray, List.getElem_cons_zero, List.getElem_cons_succ, Act.put, List.setIfInBounds_toArray, List.set_cons_zero, List.set_cons_succ])) | (refine wpAnyH_take (i := 18) (v := undef) rfl (by kernel_rfl) (by kernel_rfl) (by kernel_rfl) (fun _ _ _ h => h) (Or.inr ⟨by rfl, rfl⟩) (by assumption) ?_; (try simp only [List.getElem_toArray, List.getElem_cons_zero, List.getElem_cons_succ, Act.put, List.setIfInBounds_toArray, List.set_cons_zero, List.set_cons_succ]))
                    first | (refine wpAnyH_take (i := 19) (v := ?_) rfl (by kernel_rfl) (by kernel_rfl) (by kernel_rfl) (fun _ _ _ h => h) (Or.inl ⟨by rfl, ?_⟩) (by assumption) ?_; rotate_left 1; (focus (intro w hSw; (try dsimp only at hSw); go_simp; try with_reducible rfl)); (try simp only [List.getElem_toArray, List.getElem_cons_zero, List.getElem_cons_succ, Act.put, List.setIfInBounds_toArray, List.set_cons_zero, List.set_cons_succ])) | (refine wpAnyH_take (i := 19) (v := undef) rfl (by kernel_rfl) (by kernel_rfl) (by kernel_rfl) (fun _ _ _ h => h) (Or.inr ⟨by rfl, rfl⟩) (by assumption) ?_; (try simp only [List.getElem_toArray, List.getElem_cons_zero, List.getElem_cons_succ, Act.put, List.setIfInBounds_toArray, List.set_cons_zero, List.set_cons_succ]))
                    first | (refine wpAnyH_take (i := 20) (v := ?_) rfl (by kernel_rfl) (by kernel_rfl) (by kernel_rfl) (fun _ _ _ h => h) (Or.inl ⟨by rfl, ?_⟩) (by assumption) ?_; rotate_left 1; (focus (intro w hSw; (try dsimp only at hSw); go_simp; try with_reducible rfl)); (try simp only [List.getElem_toArray, List.getElem_cons_zero, List.getElem_cons_succ, Act.put, List.setIfInBounds_toArray, List.set_cons_zero, List.set_cons_succ])) | (refine wpAnyH_take (i := 20) (v := undef) rfl (by kernel_rfl) (by kernel_rfl) (by kernel_rfl) (fun _ _ _ h => h) (Or.inr ⟨by rfl, rfl⟩) (by assumption) ?_; (try simp only [List.getElem_toArray, List.getElem_cons_zero, List.getElem_cons_succ, Act.put, List.setIfInBounds_toArray, List.set_cons_zero, List.set_cons_succ]))
                    first | (refine wpAnyH_take (i := 21) (v := ?_) rfl (by kernel_rfl) (by kernel_rfl) (by kernel_rfl) (fun _ _ _ h => h) (Or.inl ⟨by rfl, ?_⟩) (by assumption) ?_; rotate_left 1; (focus (intro w hSw; (try dsimp only at hSw); go_simp; try with_reducible rfl)); (try simp only [List.getElem_toArray, List.getElem_cons_zero, List.getElem_cons_succ, Act.put, List.setIfInBounds_toArray, List.set_cons_zero, List.set_cons_succ])) | (refine wpAnyH_take (i := 21) (v := undef) rfl (by kernel_rfl) (by kernel_rfl) (by kernel_rfl) (fun _ _ _ h => h) (Or.inr ⟨by rfl, rfl⟩) (by assumption) ?_; (try simp only [List.getElem_toArray, List.getElem_cons_zero, List.getElem_cons_succ, Act.put, List.setIfInBounds_toArray, List.set_cons_zero, List.set_cons_succ]))
                    first | (refine wpAnyH_take (i := 22) (v := ?_) rfl (by kernel_rfl) (by kernel_rfl) (by kernel_rfl) (fun _ _ _ h => h) (Or.inl ⟨by rfl, ?_⟩) (by assumption) ?_; rotate_left 1; (focus (intro w hSw; (try dsimp only at hSw); go_simp; try with_reducible rfl)); (try simp only [List.getElem_toArray, List.getElem_cons_zero, List.getElem_cons_succ, Act.put, List.setIfInBounds_toArray, List.set_cons_zero, List.set_cons_succ])) | (refine wpAnyH_take (i := 22) (v := undef) rfl (by kernel_rfl) (by kernel_rfl) (by kernel_rfl) (fun _ _ _ h => h) (Or.inr ⟨by rfl, rfl⟩) (by assumption) ?_; (try simp only [List.getElem_toArray, List.getElem_cons_zero, List.getElem_cons_succ, Act.put, List.setIfInBounds_toArray, List.set_cons_zero, List.set_cons_succ]))
                    first | (refine wpAnyH_take (i := 23) (v := ?_) rfl (by kernel_rfl) (by kernel_rfl) (by kernel_rfl) (fun _ _ _ h => h) (Or.inl ⟨by rfl, ?_⟩) (by assumption) ?_; rotate_left 1; (focus (intro w hSw; (try dsimp only at hSw); go_simp; try with_reducible rfl)); (try simp only [List.getElem_toArray, List.getElem_cons_zero, List.getElem_cons_succ, Act.put, List.setIfInBounds_toArray, List.set_cons_zero, List.set_cons_succ])) | (refine wpAnyH_take (i := 23) (v := undef) rfl (by kernel_rfl) (by kernel_rfl) (by kernel_rfl) (fun _ _ _ h => h) (Or.inr ⟨by rfl, rfl⟩) (by assumption) ?_; (try simp only [List.getElem_toArray, List.getElem_cons_zero, List.getElem_cons_succ, Act.put, List.setIfInBounds_toArray, List.set_cons_zero, List.set_cons_succ]))
                    first | (refine wpAnyH_take (i := 24) (v := ?_) rfl (by kernel_rfl) (by kernel_rfl) (by kernel_rfl) (fun _ _ _ h => h) (Or.inl ⟨by rfl, ?_⟩) (by assumption) ?_; rotate_left 1; (focus (intro w hSw; (try dsimp only at hSw); go_simp; try with_reducible rfl)); (try simp only [List.getElem_toArray, List.getElem_cons_zero, List.getElem_cons_succ, Act.put, List.setIfInBounds_toArray, List.set_cons_zero, List.set_cons_succ])) | (refine wpAnyH_take (i := 24) (v := undef) rfl (by kernel_rfl) (by kernel_rfl) (by kernel_rfl) (fun _ _ _ h => h) (Or.inr ⟨by rfl, rfl⟩) (by assumption) ?_; (try simp only [List.getElem_toArray, List.getElem_cons_zero, List.getElem_cons_succ, Act.put, List.setIfInBounds_toArray, List.set_cons_zero, List.set_cons_succ]))
                    first | (refine wpAnyH_take (i := 26) (v := ?_) rfl (by kernel_rfl) (by kernel_rfl) (by kernel_rfl) (fun _ _ _ h => h) (Or.inl ⟨by rfl, ?_⟩) (by assumption) ?_; rotate_left 1; (focus (intro w hSw; (try dsimp only at hSw); go_simp; try with_reducible rfl)); (try simp only [List.getElem_toArray, List.getElem_cons_zero, List.getElem_cons_succ, Act.put, List.setIfInBounds_toArray, List.set_cons_zero, List.set_cons_succ])) | (refine wpAnyH_take (i := 26) (v := undef) rfl (by kernel_rfl) (by kernel_rfl) (by kernel_rfl) (fun _ _ _ h => h) (Or.inr ⟨by rfl, rfl⟩) (by assumption) ?_; (try simp only [List.getElem_toArray, List.getElem_cons_zero, List.getElem_cons_succ, Act.put, List.setIfInBounds_toArray, List.set_cons_zero, List.set_cons_succ]))
                    first | (refine wpAnyH_take (i := 27) (v := ?_) rfl (by kernel_rfl) (by kernel_rfl) (by kernel_rfl) (fun _ _ _ h => h) (Or.inl ⟨by rfl, ?_⟩) (by assumption) ?_; rotate_left 1; (focus (intro w hSw; (try dsimp only at hSw); go_simp; try with_reducible rfl)); (try simp only [List.getElem_toArray, List.getElem_cons_zero, List.getElem_cons_succ, Act.put, List.setIfInBounds_toArray, List.set_cons_zero, List.set_cons_succ])) | (refine wpAnyH_take (i := 27) (v := undef) rfl (by kernel_rfl) (by kernel_rfl) (by kernel_rfl) (fun _ _ _ h => h) (Or.inr ⟨by rfl, rfl⟩) (by assumption) ?_; (try simp only [List.getElem_toArray, List.getElem_cons_zero, List.getElem_cons_succ, Act.put, List.setIfInBounds_toArray, List.set_cons_zero, List.set_cons_succ]))
                    first | (refine wpAnyH_take (i := 28) (v := ?_) rfl (by kernel_rfl) (by kernel_rfl) (by kernel_rfl) (fun _ _ _ h => h) (Or.inl ⟨by rfl, ?_⟩) (by assumption) ?_; rotate_left 1; (focus (intro w hSw; (try dsimp only at hSw); go_simp; try with_reducible rfl)); (try simp only [List.getElem_toArray, List.getElem_cons_zero, List.getElem_cons_succ, Act.put, List.setIfInBounds_toArray, List.set_cons_zero, List.set_cons_succ])) | (refine wpAnyH_take (i := 28) (v := undef) rfl (by kernel_rfl) (by kernel_rfl) (by kernel_rfl) (fun _ _ _ h => h) (Or.inr ⟨by rfl, rfl⟩) (by assumption) ?_; (try simp only [List.getElem_toArray, List.getElem_cons_zero, List.getElem_cons_succ, Act.put, List.setIfInBounds_toArray, List.set_cons_zero, List.set_cons_succ]))
                    first | (refine wpAnyH_take (i := 29) (v := ?_) rfl (by kernel_rfl) (by kernel_rfl) (by kernel_rfl) (fun _ _ _ h => h) (Or.inl ⟨by rfl, ?_⟩) (by assumption) ?_; rotate_left 1; (focus (intro w hSw; (try dsimp only at hSw); go_simp; try with_reducible rfl)); (try simp only [List.getElem_toArray, List.getElem_cons_zero, List.getElem_cons_succ, Act.put, List.setIfInBounds_toArray, List.set_cons_zero, List.set_cons_succ])) | (refine wpAnyH_take (i := 29) (v := undef) rfl (by kernel_rfl) (by kernel_rfl) (by kernel_rfl) (fun _ _ _ h => h) (Or.inr ⟨by rfl, rfl⟩) (by assumption) ?_; (try simp only [List.getElem_toArray, List.getElem_cons_zero, List.getElem_cons_succ, Act.put, List.setIfInBounds_toArray, List.set_cons_zero, List.set_cons_succ]))
                    refine wpAnyH_ready (rs := [25]) (by kernel_rfl) (by simp) ?_
                    refine AllReadyH.cons rfl (fun K hK => ?_) AllReadyH.nil
                    go_simp
                    go_at_call 21; refine (marks_st (HSW.out.below hx12) i hir).mono ?_; rw [he2]; rintro e x3 ⟨⟨y3, rfl, hy3⟩, hx3⟩; have hx13 := below_go hx12 hx3
                    refine hK.out _ _ ⟨below_cell hx13 q1, below_cell hx13 q2, below_cell hx13 q3⟩ (fun hHeld => ?_)
                    clear hK K
                    try simp only [List.getElem_toArray, List.getElem_cons_zero, List.getElem_cons_succ, Act.put, List.setIfInBounds_toArray, List.set_cons_zero, List.set_cons_succ]
                    refine wpAnyH_ready (rs := [30]) (by kernel_rfl) (by simp) ?_
                    refine AllReadyH.cons rfl (fun K hK => ?_) AllReadyH.nil
                    go_simp
                    go_at_call 34; refine (equal_any _ _ _ _ _ (OwnM.at_ hy3) ((HUM.out.below hx13).mono hx13.size) (by omega) (by omega)).mono ?_; rw [dec_self]; rintro e x4 ⟨rfl, hx4⟩; have hx14 := below_go hx13 hx4
                    refine hK.out _ _ ⟨below_cell hx14 q1, below_cell hx14 q2, below_cell hx14 q3⟩ (fun hHeld => ?_)
                    clear hK K
                    try simp only [List.getElem_toArray, List.getElem_cons_zero, List.getElem_cons_succ, Act.put, List.setIfInBounds_toArray, List.set_cons_zero, List.set_cons_succ]
                    first | (refine wpAnyH_take (i := 31) (v := ?_) rfl (by kernel_rfl) (by kernel_rfl) (by kernel_rfl) (fun _ _ _ h => h) (Or.inl ⟨by rfl, ?_⟩) (by assumption) ?_; rotate_left 1; (focus (intro w hSw; (try dsimp only at hSw); go_simp; try with_reducible rfl)); (try simp only [List.getElem_toArray, List.getElem_cons_zero, List.getElem_cons_succ, Act.put, List.setIfInBounds_toArray, List.set_cons_zero, List.set_cons_succ])) | (refine wpAnyH_take (i := 31) (v := undef) rfl (by kernel_rfl) (by kernel_rfl) (by kernel_rfl) (fun _ _ _ h => h) (Or.inr ⟨by rfl, rfl⟩) (by assumption) ?_; (try simp only [List.getElem_toArray, List.getElem_cons_zero, List.getElem_cons_succ, Act.put, List.setIfInBounds_toArray, List.set_cons_zero, List.set_cons_succ]))
                    first | (refine wpAnyH_take (i := 32) (v := ?_) rfl (by kernel_rfl) (by kernel_rfl) (by kernel_rfl) (fun _ _ _ h => h) (Or.inl ⟨by rfl, ?_⟩) (by assumption) ?_; rotate_left 1; (focus (intro w hSw; (try dsimp only at hSw); go_simp; try with_reducible rfl)); (try simp only [List.getElem_toArray, List.getElem_cons_zero, List.getElem_cons_succ, Act.put, List.setIfInBounds_toArray, List.set_cons_zero, List.set_cons_succ])) | (refine wpAnyH_take (i := 32) (v := undef) rfl (by kernel_rfl) (by kernel_rfl) (by kernel_rfl) (fun _ _ _ h => h) (Or.inr ⟨by rfl, rfl⟩) (by assumption) ?_; (try simp only [List.getElem_toArray, List.getElem_cons_zero, List.getElem_cons_succ, Act.put, List.setIfInBounds_toArray, List.set_cons_zero, List.set_cons_succ]))
                    first | (refine wpAnyH_take (i := 33) (v := ?_) rfl (by kernel_rfl) (by kernel_rfl) (by kernel_rfl) (fun _ _ _ h => h) (Or.inl ⟨by rfl, ?_⟩) (by assumption) ?_; rotate_left 1; (focus (intro w hSw; (try dsimp only at hSw); go_simp; try with_reducible rfl)); (try simp only [List.getElem_toArray, List.getElem_cons_zero, List.getElem_cons_succ, Act.put, List.setIfInBounds_toArray, List.set_cons_zero, List.set_cons_succ])) | (refine wpAnyH_take (i := 33) (v := undef) rfl (by kernel_rfl) (by kernel_rfl) (by kernel_rfl) (fun _ _ _ h => h) (Or.inr ⟨by rfl, rfl⟩) (by assumption) ?_; (try simp only [List.getElem_toArray, List.getElem_cons_zero, List.getElem_cons_succ, Act.put, List.setIfInBounds_toArray, List.set_cons_zero, List.set_cons_succ]))
                    refine wpAnyH_done (by kernel_rfl) ?_ _
                    go_wp2_with fail
                    exact ⟨⟨k3 + 1, by omega, by simp, HBW.out.drew.trans (hx14.mono HBW.out.drew.size)⟩, by simp [intOf]; omega⟩
                · have hkk3 : k3 = R.length := by omega
                  have hbw := HBW.out
                  have heq : (((ints (dIds D3)).length : Int) == (R.length : Int)) = true := by rw [show (ints (dIds D3)).length = R.length from by simp [ints]; exact HD3.out]; simp
                  go_wp2_with (first | (go_at_call 33; refine (ids_st (HSZ.out.below hbw)).mono ?_; rintro e x1 ⟨⟨y1, rfl, hy1⟩, hx1⟩; obtain ⟨p9, c9, rfl, _⟩ := own_at hy1; clear hy1) | (go_at_call 18; refine (fixed_any _).mono ?_; rintro e x2 ⟨rfl, hx2⟩))
                  go_ret
                  exact ⟨rfl, HBZ.out.trans ((hbw.mono hwz).trans ((hx1.mono (Nat.le_trans hwz hbw.size)).trans (hx2.mono (Nat.le_trans hwz (Nat.le_trans hbw.size hx1.size)))))⟩
            · have hR0 : R = [] := List.eq_nil_of_length_eq_zero (by omega)
              subst hR0
              have hbw := Below.refl wz.heap.size wz
              have heq : (((ints (dIds D3)).length : Int) == 0) = true := by rw [show (ints (dIds D3)).length = 0 from by simp [ints]; exact List.eq_nil_of_length_eq_zero HD3.out]; rfl
              go_wp2_with fail
              refine wp_loop_rounds 1 ?_
              rw [rounds_succ]
              go_wp2_with (first | (go_at_call 33; refine (ids_st (HSZ.out.below hbw)).mono ?_; rintro e x1 ⟨⟨y1, rfl, hy1⟩, hx1⟩; obtain ⟨p9, c9, rfl, _⟩ := own_at hy1; clear hy1) | (go_at_call 18; refine (fixed_any _).mono ?_; rintro e x2 ⟨rfl, hx2⟩))
              go_ret
              exact ⟨rfl, HBZ.out.trans ((hbw.mono hwz).trans ((hx1.mono (Nat.le_trans hwz hbw.size)).trans (hx2.mono (Nat.le_trans hwz (Nat.le_trans hbw.size hx1.size)))))⟩
end Go.Proofs.YtjabhhpmofodlaaGreatDoor
