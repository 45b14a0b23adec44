/- device.Offer. -/
import Derived.Test.YtjabhhpmofodlaaGreatDoorG10
namespace Go.Proofs.YtjabhhpmofodlaaGreatDoor
open Go.RowKit
set_option linter.unusedVariables false
set_option linter.unusedSimpArgs false
def upd (e : Ev) (x : D1) : D1 := if takesB x.2.1 x.2.2 e = true then (x.1, x.2.1, putM x.2.2 e.o e.s) else x
def dOffer (D : List D1) (e : Ev) : List Int × List D1 :=
  if evRight e = true ∧ e.k ≠ 0 then ((D.filter fun x => takesB x.2.1 x.2.2 e).map (·.1), D.map (upd e)) else ([], D)
theorem dSetM_mid {A B : List D1} {x : D1} (h : (A ++ x :: B).Pairwise fun a b => a.1 < b.1) (M : List Mk) : dSetM (A ++ x :: B) x.1 M = A ++ (x.1, x.2.1, M) :: B := by
  rw [List.pairwise_append, List.pairwise_cons] at h
  obtain ⟨_, ⟨h2, _⟩, h3⟩ := h
  unfold dSetM
  rw [List.map_append, List.map_cons]
  have e1 : A.map (fun y => if (y.1 == x.1) = true then (y.1, y.2.1, M) else y) = A := by
    conv => rhs; rw [← List.map_id A]
    apply List.map_congr_left
    intro y hy
    have := h3 y hy x (by simp)
    have e : (y.1 == x.1) = false := by simp; omega
    simp [e]
  have e2 : B.map (fun y => if (y.1 == x.1) = true then (y.1, y.2.1, M) else y) = B := by
    conv => rhs; rw [← List.map_id B]
    apply List.map_congr_left
    intro y hy
    have := h2 y hy
    have e : (y.1 == x.1) = false := by simp; omega
    simp [e]
  rw [e1, e2]; simp
theorem info3 : (Tryz.prog.info? 3).map (fun i => (i.zero, i.size, i.bytes)) = some (some (.int .i64 0), 1, 8) := by kernel_rfl
theorem ints_snoc (l : List Int) (x : Int) : ints l ++ [.int .i64 x] = ints (l ++ [x]) := by simp [ints]
theorem own_turn_below {w w' : World} {base n size : Nat} {e : TypeId} {v : Value} {xs : List Value} {B : Nat} (h : w.ownsRow base e size v n xs) (ht : Turn (· < B) w w') (hB : B ≤ base) : w'.ownsRow base e size v n xs :=
  own_turn h ht fun g hg hlt => by omega
/-- All filters' rows lie below B. -/
def FB (B : Nat) (w : World) (L : List G) : Prop := ∀ x ∈ L, ∀ vf, w.cell? ⟨x.bo, 0, none⟩ = some vf → RAt w B vf (strs x.F)
theorem DevAt.fb {w : World} {bd bm : Nat} {L : List G} (h : DevAt w bd bm L) : FB w.heap.size w L := by
  intro x hx vf hc
  obtain ⟨v0, hb, hr, _⟩ := h.ones x hx
  rw [cell_arr hb] at hc
  simp at hc
  rw [← hc]; exact hr
theorem DevAt.turnB {w w' : World} {bd bm B : Nat} {L : List G} {S : Nat → Prop} (h : DevAt w bd bm L) (hF : FB B w L) (ht : Turn S w w') (hS : ∀ i, S i → B ≤ i) (hft : ∀ i, foot bm L i → i < B) (hbd : bd < B) : DevAt w' bd bm L ∧ FB B w' L := by
  have hn : ∀ i, i < B → ¬ S i := fun i hi hs => by have := hS i hs; omega
  have hRow : ∀ {v : Value} {vs : List Value}, RAt w B v vs → RAt w' B v vs := by
    rintro v vs ⟨p, cap, rfl, hc⟩
    refine ⟨p, cap, rfl, fun j hj => ?_⟩
    obtain ⟨g, hp, hg, hcell⟩ := hc j hj
    exact ⟨g, hp, hg, (World.cell?_of_block (a := ⟨g, j, none⟩) (ht.block g (World.block_lt_of_cell? w _ hcell) (hn g hg))).trans hcell⟩
  refine ⟨⟨(ht.block _ (Array.getElem?_eq_some_iff.1 h.box).1 (hn _ hbd)).trans h.box, h.map.turn ht (hn _ (hft _ (.inl rfl))), ?_, h.sorted, h.bos, h.bks, h.bm_ne⟩, ?_⟩
  · intro x hx
    obtain ⟨vf, hb, hr, hm⟩ := h.ones x hx
    have hc : w.cell? ⟨x.bo, 0, none⟩ = some vf := by rw [cell_arr hb]; rfl
    have hB : RAt w' w'.heap.size vf (strs x.F) := by
      obtain ⟨p, cap, rfl, hcc⟩ := hRow (hF x hx vf hc)
      exact ⟨p, cap, rfl, fun j hj => by obtain ⟨g, hp, hg, hcell⟩ := hcc j hj; exact ⟨g, hp, World.block_lt_of_cell? w' _ hcell, hcell⟩⟩
    exact ⟨vf, (ht.block _ (Array.getElem?_eq_some_iff.1 hb).1 (hn _ (hft _ (.inr ⟨x, hx, .inl rfl⟩)))).trans hb, hB, hm.turn ht (hn _ (hft _ (.inr ⟨x, hx, .inr rfl⟩)))⟩
  · intro x hx vf hc
    obtain ⟨v0, hb, _, _⟩ := h.ones x hx
    have := World.cell?_of_block (a := ⟨x.bo, 0, none⟩) (ht.block _ (Array.getElem?_eq_some_iff.1 hb).1 (hn _ (hft _ (.inr ⟨x, hx, .inl rfl⟩))))
    rw [this] at hc
    exact hRow (hF x hx vf hc)
theorem FB.below {w w' : World} {bd bm B : Nat} {L : List G} (hF : FB B w L) (h : DevAt w bd bm L) (hb : Below w.heap.size w w') (hB : B ≤ w.heap.size) : FB B w' L := by
  intro x hx vf hc
  obtain ⟨v0, hb0, _, _⟩ := h.ones x hx
  have := World.cell?_of_block (a := ⟨x.bo, 0, none⟩) (hb.block x.bo (Array.getElem?_eq_some_iff.1 hb0).1)
  rw [this] at hc
  exact (hF x hx vf hc).below (hb.mono hB)
theorem mark_put' {w : World} {bd bm B : Nat} {L : List G} (h : DevAt w bd bm L) (hF : FB B w L) {y : G} (hy : y ∈ L) (o s : Int) (ho : 0 ≤ o ∧ o ≤ maxNum) (hl : y.M.length ≤ 1000000) :
    ∃ w', (Instr.mapUpdate 122 (.map (some y.bk)) (.int .i64 o) (.int .i64 s)).run Tryz.prog w = .ok () w' ∧ DevAt w' bd bm (setM L y.id (putM y.M o s)) ∧ Turn (foot bm L) w w' ∧ FB B w' (setM L y.id (putM y.M o s)) := by
  obtain ⟨vf, hb, hr, hm⟩ := h.ones y hy
  obtain ⟨w', h1, h2, h3⟩ := put_run h3u hm (t := 122) Tryz.underlying122 (by simp [mmap, maxLen]; omega) (.int .i64 s) (wf64 (n := o) (by unfold maxNum at ho; omega))
  rw [mmap_put] at h2
  have hT : Turn (· = y.bk) w w' := Turn.mapTurned (S := (· = y.bk)) (Turn.refl _ w) h3 (fun _ => rfl)
  refine ⟨w', h1, h.setM hy _ hT h2, hT.mono fun i _ e => .inr ⟨y, hy, .inr e⟩, ?_⟩
  intro x hx vf' hc
  obtain ⟨x0, hx0, rfl⟩ := List.mem_map.1 hx
  have hbo : (if x0.id == y.id then { x0 with M := putM y.M o s } else x0).bo = x0.bo := by split <;> rfl
  have hFe : (if x0.id == y.id then { x0 with M := putM y.M o s } else x0).F = x0.F := by split <;> rfl
  rw [hbo] at hc
  rw [hFe]
  obtain ⟨v0, hb0, _, _⟩ := h.ones x0 hx0
  have := World.cell?_of_block (a := ⟨x0.bo, 0, none⟩) (hT.block x0.bo (Array.getElem?_eq_some_iff.1 hb0).1 ((h.bd_ne.2 x0 hx0).2.2.2 y hy))
  rw [this] at hc
  exact (hF x0 hx0 vf' hc).turn hT (by rintro i rfl; exact (h.ones y hy).dull.2)
set_option maxRecDepth 100000 in
set_option maxHeartbeats 8000000 in
theorem offer_any (e : Ev) (bd bm : Nat) (L : List G) (w : World) (h : DevAt w bd bm L) (hI : DInv (ab L)) (het : e.t.size ≤ 1000000000) :
    Calls Tryz.prog 26 #[.pointer (some ⟨bd, 0, none⟩), evV e] w fun r w' => (∃ v, r = .returned v ∧ OwnI w' w.heap.size v (dOffer (ab L) e).1) ∧ Step w bd bm L w' (dOffer (ab L) e).2 := by
  have hlen : L.length ≤ 16 := by have := hI.len; simpa [ab] using this
  have hal : (ab L).length = L.length := by simp [ab]
  have hdl : (dIds (ab L)).length = L.length := by simp [dIds, ab]
  have hER := Lib.hid (evright_any e · het)
  have HH := Lib.hid h
  have HI := Lib.hid hI
  clear h hI
  obtain ⟨o, s, t, l, tk⟩ := e
  unfold evV at hER ⊢
  simp only at het hER ⊢
  obtain ⟨W, hW⟩ : ∃ W, w.alloc (.cells #[.int .i64 o, .int .i64 s, .string t, .string l, .int .i64 tk] 37) = W := ⟨_, rfl⟩
  have hWb : Below w.heap.size w W := by rw [← hW]; exact below_al (Below.refl _ _) _
  have heW : W.heap[w.heap.size]? = some (.cells #[.int .i64 o, .int .i64 s, .string t, .string l, .int .i64 tk] 37) := by rw [← hW]; exact World.alloc_heap_new w _
  have hev : Hid (∀ w' : World, w'.heap[w.heap.size]? = some (.cells #[.int .i64 o, .int .i64 s, .string t, .string l, .int .i64 tk] 37) → w'.cell? ⟨w.heap.size, 0, none⟩ = some (.int .i64 o) ∧ w'.cell? ⟨w.heap.size, 1, none⟩ = some (.int .i64 s) ∧ w'.cell? ⟨w.heap.size, 2, none⟩ = some (.string t) ∧ w'.cell? ⟨w.heap.size, 3, none⟩ = some (.string l) ∧ w'.cell? ⟨w.heap.size, 4, none⟩ = some (.int .i64 tk)) := Lib.hid (fun w' h => ⟨cell_arr h 0, cell_arr h 1, cell_arr h 2, cell_arr h 3, cell_arr h 4⟩)
  obtain ⟨a0, a1, a2, a3, a4⟩ := hev.out W heW
  have HEW := Lib.hid heW
  have hsW := (Array.getElem?_eq_some_iff.1 heW).1
  clear heW
  cases hr : evRight ⟨o, s, t, l, tk⟩ with
  | false =>
    have hd : dOffer (ab L) ⟨o, s, t, l, tk⟩ = ([], ab L) := by unfold dOffer; rw [if_neg (by simp [hr])]
    rw [hd]
    clear hd
    go_enter Tryz.func26, Tryz.ntmps26
    go_wp2_with (go_at_call 88; refine (hER.out _).mono ?_; rw [hr]; rintro e w1 ⟨rfl, hb1⟩)
    go_ret
    exact ⟨⟨_, rfl, World.ownsRow_nil _ _ _ _⟩, step_refl HH.out (hWb.trans (hb1.mono hWb.size))⟩
  | true =>
    by_cases htk : tk = 0
    · have hd : dOffer (ab L) ⟨o, s, t, l, tk⟩ = ([], ab L) := by unfold dOffer; rw [if_neg (by simp [htk])]
      rw [hd]
      subst htk
      clear hd
      go_enter Tryz.func26, Tryz.ntmps26
      go_wp2_with (go_at_call 88; refine (hER.out _).mono ?_; rw [hr]; rintro e w1 ⟨rfl, hb1⟩; obtain ⟨b0, b1, b2, b3, b4⟩ := hev.out _ ((hb1.block _ hsW).trans HEW.out))
      go_ret
      exact ⟨⟨_, rfl, World.ownsRow_nil _ _ _ _⟩, step_refl HH.out (hWb.trans (hb1.mono hWb.size))⟩
    · have hor : 0 ≤ o ∧ o ≤ maxNum := by
        simp only [evRight, inB, Bool.and_eq_true, decide_eq_true_eq] at hr
        exact hr.1.1.1.1
      have hd : dOffer (ab L) ⟨o, s, t, l, tk⟩ = (((ab L).filter fun x => takesB x.2.1 x.2.2 ⟨o, s, t, l, tk⟩).map (·.1), (ab L).map (upd ⟨o, s, t, l, tk⟩)) := by unfold dOffer; rw [if_pos ⟨hr, htk⟩]
      rw [hd]
      clear hd
      have htk' : (tk == 0) = false := by simpa using htk
      have HID : Hid (∀ W1, DevAt W1 bd bm L → Calls Tryz.prog 33 #[.pointer (some ⟨bd, 0, none⟩)] W1 fun e w' => (∃ v, e = .returned v ∧ OwnI w' W1.heap.size v (dIds (ab L))) ∧ Below W1.heap.size W1 w') := Lib.hid (fun W1 hW1 => ids_any bd bm L W1 hW1 (by omega))
      have HKG := Lib.hid (fun k hk hk' => dIds_get L k hk hk')
      have HDL := Lib.hid hdl
      clear hdl
      generalize dIds (ab L) = ks at *
      by_cases h0 : 0 < ks.length
      · go_enter Tryz.func26, Tryz.ntmps26
        go_wp2_with (first | (go_at_call 88; refine (hER.out _).mono ?_; rw [hr]; rintro e w1 ⟨rfl, hb1⟩; obtain ⟨b0, b1, b2, b3, b4⟩ := hev.out _ ((hb1.block _ hsW).trans HEW.out)) | (go_at_call 33; refine (HID.out _ ((HH.out.below hWb).below hb1)).mono ?_; rintro e w2 ⟨⟨v, rfl, hO⟩, hb2⟩; obtain ⟨g, cap, rfl, hg, hg2, hc⟩ := hO.open_ h0; have HC := Lib.hid hc; clear hc hO))
        have hb02 : Below w.heap.size w w2 := hWb.trans ((below_go hb1 hb2).mono hWb.size)
        have HB02 := Lib.hid hb02
        have HE2 := Lib.hid ((hb2.block w.heap.size (by have := hb1.size; omega)).trans ((hb1.block _ hsW).trans HEW.out))
        have hw2s : w.heap.size < w2.heap.size := (Array.getElem?_eq_some_iff.1 HE2.out).1
        have hbdlt : bd < w2.heap.size := Nat.lt_trans (Array.getElem?_eq_some_iff.1 HH.out.box).1 hw2s
        have hgb : w.heap.size ≤ g := by have := hb1.size; omega
        clear hb1 hb2 hWb hb02 b0 b1 b2 b3 b4 a0 a1 a2 a3 a4 hW hr HEW hg2 hsW
        go_loopw [5, 20] (fun v c wr => ∃ (k : Nat) (Lk : List G) (outk : List Int), k ≤ L.length ∧ c = .int .i64 k ∧ DevAt wr bd bm Lk ∧ ab Lk = ((ab L).take k).map (upd ⟨o, s, t, l, tk⟩) ++ (ab L).drop k ∧ (∀ i, foot bm Lk i → foot bm L i) ∧ Turn (foot bm L) w wr ∧ Turn (· < w.heap.size) w2 wr ∧ wr.ownsRow w2.heap.size 3 1 v outk.length (ints outk) ∧ FB w2.heap.size wr Lk ∧ outk = (((ab L).take k).filter fun x => takesB x.2.1 x.2.2 ⟨o, s, t, l, tk⟩).map (·.1)) (fun _ c _ => L.length - (intOf c).toNat)
        case atStart => exact ⟨0, L, [], Nat.zero_le _, rfl, HH.out.below HB02.out, by simp, fun _ h => h, Turn.of_below' HB02.out, Turn.refl _ _, World.ownsRow_nil _ _ _ _, (HH.out.below HB02.out).fb, by simp⟩
        case round =>
          obtain ⟨k, Lk, outk, hk, rfl, hDk, habk, hfk, hTk, hT2, hrow, hfb, hout⟩ := hrel
          have HFB := Lib.hid hfb
          clear hfb
          have HDk := Lib.hid hDk
          have HABK := Lib.hid habk
          have HFK := Lib.hid hfk
          have HTK := Lib.hid hTk
          have HT2 := Lib.hid hT2
          have HROW := Lib.hid hrow
          have HOUT := Lib.hid hout
          clear hDk habk hfk hTk hT2 hrow hout
          by_cases hlt : k < L.length
          · have hka : k < (ab L).length := by rw [hal]; exact hlt
            have hkq : k < ks.length := by rw [HDL.out]; exact hlt
            have hck : wr.cell? ⟨g, k, none⟩ = some (.int .i64 ks[k]) := (World.cell?_of_block (a := ⟨g, k, none⟩) (HT2.out.block g hg (by omega))).trans (HC.out k hkq)
            rw [HKG.out k hlt hkq] at hck
            have hLkl : Lk.length = L.length := by
              have := congrArg List.length HABK.out
              simp [ab] at this; omega
            have hkk : k < Lk.length := by omega
            have hDX := List.drop_eq_getElem_cons hka
            have hxk : (ab L)[k] = (Lk[k].id, Lk[k].F, Lk[k].M) := by
              have h1 : (ab Lk)[k]'(by simp [ab]; exact hkk) = (Lk[k].id, Lk[k].F, Lk[k].M) := by simp [ab]
              rw [← h1]
              have h2 : (ab Lk)[k]? = (((ab L).take k).map (upd ⟨o, s, t, l, tk⟩) ++ (ab L).drop k)[k]? := by rw [HABK.out]
              have hlen : (((ab L).take k).map (upd ⟨o, s, t, l, tk⟩)).length = k := by simp; omega
              rw [List.getElem?_append_right (by omega), hlen, Nat.sub_self, hDX, List.getElem?_cons_zero, List.getElem?_eq_getElem (by simp [ab]; exact hkk)] at h2
              exact (Option.some.inj h2).symm
            have hidk : L[k].id = Lk[k].id := by
              have : (ab L)[k].1 = L[k].id := by simp [ab]
              rw [← this, hxk]
            have hXI : XInv (Lk[k].id, Lk[k].F, Lk[k].M) := by rw [← hxk]; exact HI.out.xs _ (by simp)
            rw [hidk] at hck
            rw [hxk] at hDX
            have hTF : (ab L).take (k + 1) = (ab L).take k ++ [(Lk[k].id, Lk[k].F, Lk[k].M)] := by rw [List.take_add_one, List.getElem?_eq_getElem hka, hxk]; rfl
            have hy : Lk[k] ∈ Lk := by simp
            have hfnd : mget (gmap Lk) Lk[k].id = some (.pointer (some ⟨Lk[k].bo, 0, none⟩)) := by
              rw [mget_mem (gmap_sorted HDk.out)]
              exact List.mem_map.2 ⟨Lk[k], hy, rfl⟩
            have HDX := Lib.hid hDX
            have HTF := Lib.hid hTF
            clear hDX hTF hxk hidk
            generalize Lk[k] = y at *
            have HXI := Lib.hid hXI
            have HFND := Lib.hid hfnd
            have hidr : 0 ≤ y.id ∧ y.id ≤ maxNum := hXI.id
            have hMl : y.M.length ≤ 32 := hXI.ml
            have hid64 : -9223372036854775808 ≤ y.id ∧ y.id ≤ 9223372036854775807 := by unfold maxNum at hidr; omega
            clear hXI hfnd
            have HTA : Hid (∀ W, OneAt W y → Calls Tryz.prog 89 #[.pointer (some ⟨y.bo, 0, none⟩), .agg #[.int .i64 o, .int .i64 s, .string t, .string l, .int .i64 tk]] W fun r w' => r = .returned (.bool (takesB y.F y.M ⟨o, s, t, l, tk⟩)) ∧ Below W.heap.size W w') := Lib.hid (fun W hW => takes_any y ⟨o, s, t, l, tk⟩ W hW HXI.out het hor)
            have hbd := HDk.out.bd_cell
            have HLK := Lib.hid (HDk.out.look hid64 HFND.out)
            have hlk := HLK.out
            have hew := hev.out wr ((HT2.out.block _ hw2s (by omega)).trans HE2.out)
            obtain ⟨b0, b1, b2, b3, b4⟩ := hew
            cases htb : takesB y.F y.M ⟨o, s, t, l, tk⟩ with
            | false =>
              go_wp2_with (go_at_call 89; refine (HTA.out _ (HDk.out.ones y hy)).mono ?_; rw [htb]; rintro e w5 ⟨rfl, hb5⟩)
              refine ⟨⟨k + 1, Lk, outk, by omega, by simp, HDk.out.below hb5, ?_, HFK.out, HTK.out.more hb5, HT2.out.more hb5, own_turn HROW.out (Turn.of_below' (S := fun _ => False) hb5) (by simp), HFB.out.below HDk.out hb5 HT2.out.size, ?_⟩, by simp [intOf]; omega⟩
              · rw [HABK.out, HTF.out, HDX.out]; simp [upd, htb]
              · rw [HOUT.out, HTF.out]; simp [List.filter_append, htb]
            | true =>
              go_wp2_with (go_at_call 89; refine (HTA.out _ (HDk.out.ones y hy)).mono ?_; rw [htb]; rintro e w5 ⟨rfl, hb5⟩)
              have hb5d : Below wr.heap.size wr w5.drew := hb5.drew
              have hD5 := HDk.out.below hb5d
              have hnf : ∀ i, w.heap.size ≤ i → ¬ foot bm Lk i := fun i hi hf => by have := HH.out.lt _ (HFK.out _ hf); omega
              have hE5 := (hb5d.block w.heap.size (by have := HT2.out.size; omega)).trans ((HT2.out.block _ hw2s (by omega)).trans HE2.out)
              obtain ⟨w6, hup, hD6, hT6, hF6⟩ := mark_put' hD5 (HFB.out.below HDk.out hb5d HT2.out.size) hy o s hor (by omega)
              have HF6 := Lib.hid hF6
              clear hF6
              have hE6 := (hT6.block w.heap.size (Array.getElem?_eq_some_iff.1 hE5).1 (hnf _ (Nat.le_refl _))).trans hE5
              have hk0 : Hid (_ ∧ _ ∧ _) := Lib.hid ⟨hD5.one_cell hy, (hev.out _ hE5).1, (hev.out _ hE5).2.1⟩
              have hk1 : Hid (_ ∧ _ ∧ _) := Lib.hid ⟨hD6.one_cell (setM_mem hy _), (hev.out _ hE6).1, (hev.out _ hE6).2.1⟩
              have hT6' : Turn (· < w.heap.size) w5.drew w6 := hT6.mono fun i _ hf => by have := HH.out.lt _ (HFK.out _ hf); omega
              have hil : (ints outk).length = outk.length := by simp [ints]
              have HR6 := Lib.hid (own_turn_below (own_turn HROW.out (Turn.of_below' (S := fun _ => False) hb5d) (by simp)) hT6' (by omega))
              have hbase : w2.heap.size ≤ w6.heap.size := by have h1 := HT2.out.size; have h2 := hb5d.size; have h3 := hT6'.size; omega
              have HD6 := Lib.hid hD6
              have HT6 := Lib.hid hT6
              have HT6' := Lib.hid hT6'
              have hob : outk.length ≤ 16 := by
                rw [HOUT.out]
                have h1 := List.length_filter_le (fun x : D1 => takesB x.2.1 x.2.2 ⟨o, s, t, l, tk⟩) ((ab L).take k)
                simp at h1 ⊢; omega
              clear hD5 hnf hE5 hD6 hE6 hT6 hT6' b0 b1 b2 b3 b4 hlk hck
              go_region_held3 (fun W => W.cell? ⟨y.bo, 1, none⟩ = some (.map (some y.bk)) ∧ W.cell? ⟨w.heap.size, 0, none⟩ = some (.int .i64 o) ∧ W.cell? ⟨w.heap.size, 1, none⟩ = some (.int .i64 s)) (first | exact hk0.out | exact hk1.out) (first | fail)
              go_wp2_with (at_builtin; go_must (refine app1 (w0 := w6) (base := w2.heap.size) rfl _ _ 48 3 (.int .i64 0) 8 rfl Tryz.underlying48 info3 rfl (by decide) u5 (ints outk) (.int .i64 y.id) rfl rfl rfl (by rw [hil]; exact HR6.out) (Below.refl _ _) hbase (by rw [hil]; omega) ?_); intro v7 w7 hrow7 hb7 hsz7 _ _)
              have hT7 : Turn (w2.heap.size ≤ ·) w6 w7 := Turn.of_below hb7 fun _ _ h => h
              have hD7 := HD6.out.turnB HF6.out hT7 (fun _ h => h) (fun i hf => by have := HH.out.lt _ (HFK.out _ (foot_setM hf)); omega) hbdlt
              refine ⟨⟨k + 1, setM Lk y.id (putM y.M o s), outk ++ [y.id], by omega, by simp, hD7.1, ?_, fun i h => HFK.out i (foot_setM h), ?_, ?_, ?_, hD7.2, ?_⟩, by simp [intOf]; omega⟩
              · have hsd : (ab Lk).Pairwise fun a b => a.1 < b.1 := by unfold ab; rw [List.pairwise_map]; exact HDk.out.sorted
                rw [HABK.out, HDX.out] at hsd
                rw [ab_setM, HABK.out, HDX.out, dSetM_mid hsd, HTF.out]
                simp [upd, htb]
              · exact ((HTK.out.more hb5d).trans HT6.out fun i _ h => HFK.out i h).trans hT7 fun i hi h => by omega
              · exact ((HT2.out.more hb5d).trans HT6'.out fun i _ h => h).trans hT7 fun i hi h => by omega
              · rw [ints_snoc] at hrow7
                simpa [ints] using hrow7
              · rw [HTF.out, List.filter_append, List.map_append, ← HOUT.out]; simp [htb]
          · obtain rfl : k = L.length := by omega
            have hkq := HDL.out
            go_wp2
            go_ret
            have htl : (ab L).take L.length = ab L := List.take_of_length_le (by omega)
            have hdr : (ab L).drop L.length = [] := List.drop_of_length_le (by omega)
            have h1 := HABK.out
            have h2 := HOUT.out
            rw [htl] at h1 h2
            rw [hdr, List.append_nil] at h1
            rw [← h2]
            exact ⟨⟨_, rfl, own_weaken HROW.out (by omega)⟩, Lk, HDk.out, h1, fun i h => .inl (HFK.out i h), HTK.out⟩
      · have hk0 : ks = [] := List.eq_nil_of_length_eq_zero (by omega)
        have hL0 : L = [] := List.eq_nil_of_length_eq_zero (by rw [← HDL.out, hk0]; rfl)
        subst hL0 hk0
        go_enter Tryz.func26, Tryz.ntmps26
        go_wp2_with (first | (go_at_call 88; refine (hER.out _).mono ?_; rw [hr]; rintro e w1 ⟨rfl, hb1⟩; obtain ⟨b0, b1, b2, b3, b4⟩ := hev.out _ ((hb1.block _ hsW).trans HEW.out)) | (go_at_call 33; refine (HID.out _ ((HH.out.below hWb).below hb1)).mono ?_; rintro e w2 ⟨⟨v, rfl, hO⟩, hb2⟩; obtain ⟨p, cap, rfl⟩ := (own_at hO).nil_open rfl))
        refine wp_loop_rounds 1 ?_
        rw [rounds_succ]
        go_wp2
        go_ret
        exact ⟨⟨_, rfl, World.ownsRow_nil _ _ _ _⟩, step_refl HH.out (hWb.trans ((below_go hb1 hb2).mono hWb.size))⟩
end Go.Proofs.YtjabhhpmofodlaaGreatDoor
