/- device.Load: the deferred closure; the devices that bytes give. -/
import Derived.Test.YtjabhhpmofodlaaGreatDoorG10
import Derived.Defers
import Derived.Recover
namespace Go.Proofs.YtjabhhpmofodlaaGreatDoor
open Go.RowKit
set_option linter.unusedVariables false
set_option linter.unusedSimpArgs false
theorem DevAt.turn_ns {w w' : World} {bd bm : Nat} {L : List G} {S : Nat → Prop} (h : DevAt w bd bm L) (ht : Turn S w w') (hS : ∀ i, S i → ∀ j s, w.cell? ⟨i, j, none⟩ ≠ some (.string s)) (h1 : ¬ S bd) (h2 : ∀ i, foot bm L i → ¬ S i) : DevAt w' bd bm L := by
  refine ⟨(ht.block _ (Array.getElem?_eq_some_iff.1 h.box).1 h1).trans h.box, h.map.turn ht (h2 _ (.inl rfl)), fun x hx => ?_, h.sorted, h.bos, h.bks, h.bm_ne⟩
  obtain ⟨vf, hb, ⟨p, cap, rfl, hc⟩, hm⟩ := h.ones x hx
  refine ⟨_, (ht.block _ (Array.getElem?_eq_some_iff.1 hb).1 (h2 _ (.inr ⟨x, hx, .inl rfl⟩))).trans hb, ⟨p, cap, rfl, fun j hj => ?_⟩, hm.turn ht (h2 _ (.inr ⟨x, hx, .inr rfl⟩))⟩
  obtain ⟨g, hp, hg, hcell⟩ := hc j hj
  refine ⟨g, hp, Nat.lt_of_lt_of_le hg ht.size, ?_⟩
  have hn : ¬ S g := fun hs => by
    have := hS g hs j
    rw [hcell] at this
    simp [strs] at this
  exact (World.cell?_of_block (a := ⟨g, j, none⟩) (ht.block g hg hn)).trans hcell
theorem box_ns {w : World} {b t : Nat} {v : Value} (h : Boxed w b t v) (hv : ∀ s, v ≠ .string s) : ∀ j s, w.cell? ⟨b, j, none⟩ ≠ some (.string s) := by
  intro j s e
  rw [cell_arr h] at e
  cases j with
  | zero => simp at e; exact hv s e
  | succ j => simp at e
theorem catch_panicking (p q : Nat) (hpq : p ≠ q) (w : World) (hc : Boxed w p 22 (.pointer none)) (hd : Boxed w q 23 (.int .i64 0)) :
    CallsD Tryz.prog 62 #[.pointer (some ⟨p, 0, none⟩), .pointer (some ⟨q, 0, none⟩)] (.panicking PE) w fun e u' w' =>
      e = .returned (.tuple #[]) ∧ u' = .panicking [{ v := .iface 23 (.int .i64 4), recovered := true }] ∧ w' = (w.setCell ⟨p, 0, none⟩ (.pointer none)).setCell ⟨q, 0, none⟩ (.int .i64 4) := by
  have c0 := hc.cell
  have z0 := hc.frozen
  have c1 := (hd.other hpq.symm (.pointer none)).cell
  have z1 := (hd.other hpq.symm (.pointer none)).frozen
  refine callsD_of_wpS Tryz.func62 rfl fun c₀ cs hu => ?_
  apply wpS_seq
  apply wpS_region
  simp [wpOpsS, go_sem, recoverD, hu, Tryz.ntmps62, Exit.thenS]
  apply wpS_seq
  apply wpS_region
  simp [wpOpsS, go_sem, recoverD, hu, Tryz.ntmps62, Exit.thenS]
  refine wpS_cond (t := true) (by simp [Act.eval, Array.replicate]) ?_
  simp only [if_true]
  apply wpS_region
  simp [wpOpsS, go_sem, c0, z0, c1, z1, bodyPostS, results, Tryz.results62]
theorem catch_idle (p q : Nat) (w : World) :
    CallsD Tryz.prog 62 #[.pointer (some ⟨p, 0, none⟩), .pointer (some ⟨q, 0, none⟩)] .returning w fun e u' w' => e = .returned (.tuple #[]) ∧ u' = .returning ∧ w' = w := by
  refine callsD_of_wpS Tryz.func62 rfl fun c₀ cs hu => ?_
  apply wpS_seq
  apply wpS_region
  simp [wpOpsS, go_sem, recoverD, hu, Tryz.ntmps62, Exit.thenS]
  apply wpS_seq
  apply wpS_region
  simp [wpOpsS, go_sem, recoverD, hu, Tryz.ntmps62, Exit.thenS]
  refine wpS_cond (t := false) (by simp [Act.eval, Array.replicate]) ?_
  simp only [Bool.false_eq_true, if_false]
  refine wpS_of_wp (wp_skip ?_)
  cases c₀
  simp_all [bodyPostS, results, Tryz.results62]
theorem catch_bad (p q : Nat) (hpq : p ≠ q) (w : World) (hc : Boxed w p 22 (.pointer none)) (hd : Boxed w q 23 (.int .i64 0)) :
    CallsD Tryz.prog 62 #[.pointer (some ⟨p, 0, none⟩), .pointer (some ⟨q, 0, none⟩)] (.panicking PE) w fun e u' w' =>
      e = .returned (.tuple #[]) ∧ u' = .panicking [{ v := .iface 23 (.int .i64 4), recovered := true }] ∧ Boxed w' p 22 (.pointer none) ∧ Boxed w' q 23 (.int .i64 4) ∧ Turn (fun i => i = p ∨ i = q) w w' := by
  refine (catch_panicking p q hpq w hc hd).mono ?_
  rintro e u' w' ⟨rfl, rfl, rfl⟩
  exact ⟨rfl, rfl, Boxed.other (Boxed.set _ hc) hpq _, Boxed.set _ (Boxed.other hd hpq.symm _), ((Turn.refl _ w).setCell (fun _ => .inl rfl) _).setCell (fun _ => .inr rfl) _⟩
def dReads (s : ByteArray) : Nat → List D1 → Int → Option (List D1 × Int)
  | 0, D, a => some (D, a)
  | m + 1, D, a => match dRead D s a with
    | none => none
    | some (D', _, a') => dReads s m D' a'
def dLoad (s : ByteArray) : Option (List D1) :=
  match numR s 0 16 with
  | none => none
  | some (many, a) => match dReads s many.toNat [] a with
    | none => none
    | some (D, _) => if dSave D = s then some D else none
def LoadPost (w : World) (R : Option (List D1)) (e : Ending) (w' : World) : Prop :=
  match R with
  | some D => (∃ bd bm L, e = .returned (.tuple #[.pointer (some ⟨bd, 0, none⟩), .int .i64 0]) ∧ DevAt w' bd bm L ∧ ab L = D ∧ w.heap.size ≤ bd ∧ (∀ i, foot bm L i → w.heap.size ≤ i)) ∧ Below w.heap.size w w'
  | none => e = .returned (.tuple #[.pointer none, .int .i64 4]) ∧ Below w.heap.size w w'
theorem dFils_inv (s : ByteArray) (id : Int) (m : Nat) (D : List D1) (a : Int) (h : DInv D) {D' : List D1} {a' : Int} (e : dFils s id m D a = some (D', a')) : DInv D' := by
  induction m generalizing D a with
  | zero => simp [dFils] at e; rw [← e.1]; exact h
  | succ m ih =>
    unfold dFils at e
    split at e
    · cases e
    · split at e
      · cases e
      · exact ih _ _ (dAsk_inv h id _ true (by have := vcut_size s a; omega)) e
theorem dRead_inv (s : ByteArray) (D : List D1) (a : Int) (h : DInv D) {D' : List D1} {id a' : Int} (e : dRead D s a = some (D', id, a')) : DInv D' := by
  unfold dRead at e
  split at e
  · cases e
  · split at e
    · cases e
    · split at e
      · cases e
      · split at e
        · cases e
        · rename_i D2 a3 he
          split at e
          · cases e
          · simp only [Option.some.injEq, Prod.mk.injEq] at e
            rw [← e.1]
            exact dSetM_inv (dFils_inv _ _ _ _ _ (dJoin_inv h _) he) _ _ (ecut_facts s a3)
theorem dInv_nil : DInv [] := ⟨by simp, by simp, by simp⟩
theorem Boxed.below' {W W' : World} {B t : Nat} {v : Value} (h : Boxed W B t v) (hb : Below W.heap.size W W') : Boxed W' B t v := (hb.block B h.lt).trans h
theorem load_boxes (w : World) : Boxed ((w.alloc (.cells #[.pointer none] 22)).alloc (.cells #[.int .i64 0] 23)) w.heap.size 22 (.pointer none) ∧ Boxed ((w.alloc (.cells #[.pointer none] 22)).alloc (.cells #[.int .i64 0] 23)) (w.heap.size + 1) 23 (.int .i64 0) ∧ Below w.heap.size w ((w.alloc (.cells #[.pointer none] 22)).alloc (.cells #[.int .i64 0] 23)) :=
  ⟨(Boxed.new w 22 (.pointer none)).alloc _, by simpa using Boxed.new (w.alloc (.cells #[.pointer none] 22)) 23 (.int .i64 0), below_al (below_al (Below.refl _ _) _) _⟩
theorem leaf_bad {w w2 : World} {tmps : Array Value} (h2 : tmps[2]?.getD undef = .pointer (some ⟨w.heap.size, 0, none⟩)) (h3 : tmps[3]?.getD undef = .pointer (some ⟨w.heap.size + 1, 0, none⟩)) (hB2 : Boxed w2 w.heap.size 22 (.pointer none)) (hB3 : Boxed w2 (w.heap.size + 1) 23 (.int .i64 0)) (hb : Below w.heap.size w w2) :
    bodyPostD Tryz.prog Tryz.f14 (LoadPost w none) (Exit.panic PE) { tmps := tmps, defers := [{ target := Target.fn (Fn.func 62) #[.pointer (some ⟨w.heap.size, 0, none⟩), .pointer (some ⟨w.heap.size + 1, 0, none⟩)], args := #[] }] } w2 := by
  refine leaves_cons (f := 62) (args := #[.pointer (some ⟨w.heap.size, 0, none⟩), .pointer (some ⟨w.heap.size + 1, 0, none⟩)]) (by simp) (by simp [go_sem]) ?_
  refine (catch_bad _ _ (by omega) _ hB2 hB3).mono ?_
  rintro e u' w3 ⟨rfl, rfl, h5, h6, h7⟩
  have d0 := h5.cell
  have d1 := h6.cell
  have hT : Below w.heap.size w w3 := hb.trans (h7.below hb.size (by intro i hi; omega))
  simp [Leaves, settle, results, Tryz.results14, go_sem, h2, h3, d0, d1]
  exact ⟨rfl, hT⟩
theorem leaf_ok {w w2 : World} {bd : Nat} {R : Option (List D1)} {tmps : Array Value} (h2 : tmps[2]?.getD undef = .pointer (some ⟨w.heap.size, 0, none⟩)) (h3 : tmps[3]?.getD undef = .pointer (some ⟨w.heap.size + 1, 0, none⟩)) (hB2 : Boxed w2 w.heap.size 22 (.pointer (some ⟨bd, 0, none⟩))) (hB3 : Boxed w2 (w.heap.size + 1) 23 (.int .i64 0)) (hp : LoadPost w R (.returned (.tuple #[.pointer (some ⟨bd, 0, none⟩), .int .i64 0])) w2) :
    bodyPostD Tryz.prog Tryz.f14 (LoadPost w R) Exit.ret { tmps := tmps, defers := [{ target := Target.fn (Fn.func 62) #[.pointer (some ⟨w.heap.size, 0, none⟩), .pointer (some ⟨w.heap.size + 1, 0, none⟩)], args := #[] }] } w2 := by
  refine leaves_cons (f := 62) (args := #[.pointer (some ⟨w.heap.size, 0, none⟩), .pointer (some ⟨w.heap.size + 1, 0, none⟩)]) (by simp) (by simp [go_sem]) ?_
  refine (catch_idle _ _ _).mono ?_
  rintro e u' w3 ⟨rfl, rfl, rfl⟩
  have d0 := hB2.cell
  have d1 := hB3.cell
  simp [Leaves, settle, results, Tryz.results14, go_sem, h2, h3, d0, d1]
  exact hp
set_option maxRecDepth 100000 in
set_option maxHeartbeats 8000000 in
theorem load_any (s : ByteArray) (w : World) (hs : s.size ≤ 1000000000) : Calls Tryz.prog 14 #[.string s] w (LoadPost w (dLoad s)) := by
  have hmf : ∀ (fn : Fn) (first cap : Array Value) (w : World), (Instr.makeFunc fn first cap).run Tryz.prog w = .ok (.func fn first cap) w := fun _ _ _ _ => rfl
  generalize hR : dLoad s = R
  have HR := Lib.hid hR
  clear hR
  cases hn1 : numR s 0 16 with
  | none =>
    have hR : R = none := by rw [← HR.out]; unfold dLoad; rw [hn1]
    subst hR
    go_enter_defers Tryz.func14, Tryz.ntmps14
    go_wp2_with (first | (go_at_call 20; refine (new_any _).mono ?_; rintro e w1 ⟨⟨bd, bm, rfl, hbd, hbm, hD⟩, hb1⟩) | (go_at_call 63; refine (num_bad s 0 16 _ (by omega) (by omega) hn1).mono ?_; rintro e w2 ⟨rfl, hb2⟩))
    have hA := load_boxes w
    exact leaf_bad rfl rfl (Boxed.below' (Boxed.below' hA.1 hb1) hb2) (Boxed.below' (Boxed.below' hA.2.1 hb1) hb2) (hA.2.2.trans ((below_go hb1 hb2).mono hA.2.2.size))
  | some r1 =>
    obtain ⟨many, a1⟩ := r1
    have HN1 := Lib.hid hn1
    have hmr : 0 ≤ many ∧ many ≤ 16 := by
      have := vget_ok s 0
      unfold numR at hn1
      split at hn1
      · rename_i hc
        simp only [Option.some.injEq, Prod.mk.injEq] at hn1
        obtain ⟨rfl, rfl⟩ := hn1
        exact ⟨by omega, hc.2⟩
      · cases hn1
    obtain ⟨m, hm⟩ : ∃ m : Nat, many = m := ⟨many.toNat, by omega⟩
    subst hm
    have hm16 : m ≤ 16 := by omega
    have HR2 : Hid (R = match dReads s m [] a1 with
      | none => none
      | some (D, _) => if dSave D = s then some D else none) := Lib.hid (by rw [← HR.out]; unfold dLoad; rw [HN1.out]; rfl)
    clear HR hn1
    have hA := Lib.hid (load_boxes w)
    go_enter_defers Tryz.func14, Tryz.ntmps14
    go_wp2_with (first | (go_at_call 20; refine (new_any _).mono ?_; rintro e w1 ⟨⟨bd, bm, rfl, hbd, hbm, hD⟩, hb1⟩) | (go_at_call 63; refine (num_ok s 0 16 m a1 _ (by omega) (by omega) HN1.out).mono ?_; rintro e w2 ⟨rfl, hb2⟩))
    have hW0 : Below w.heap.size w w2 := hA.out.2.2.trans ((below_go hb1 hb2).mono hA.out.2.2.size)
    have hbx2 : Boxed w2 w.heap.size 22 (.pointer none) := Boxed.below' (Boxed.below' hA.out.1 hb1) hb2
    have hbx3 : Boxed w2 (w.heap.size + 1) 23 (.int .i64 0) := Boxed.below' (Boxed.below' hA.out.2.1 hb1) hb2
    have hD2 := hD.below hb2
    have hbd' : w.heap.size + 2 ≤ bd := by simp at hbd; omega
    have hbm' : w.heap.size + 2 ≤ bm := by simp at hbm; omega
    have hsz2 : w.heap.size + 2 ≤ w2.heap.size := by have := hbx3.lt; omega
    have hS0 : Step w2 bd bm [] w2 [] := step_refl hD2 (Below.refl _ _)
    have HD2 := Lib.hid hD2
    have HBX2 := Lib.hid hbx2
    have HBX3 := Lib.hid hbx3
    clear hD hb1 hb2 hbd hbm hbx2 hbx3 hD2
    go_loopw [6, 15] (fun v c wr => ∃ (k : Nat) (Dk : List D1) (ak : Int), k ≤ m ∧ c = .int .i64 k ∧ v = .int .i64 ak ∧ Step w2 bd bm [] wr Dk ∧ DInv Dk ∧ dReads s m [] a1 = dReads s (m - k) Dk ak) (fun _ c _ => m - (intOf c).toNat)
    case atStart => exact ⟨0, [], a1, Nat.zero_le _, rfl, rfl, hS0, dInv_nil, rfl⟩
    case round =>
      obtain ⟨k, Dk, ak, hk, rfl, rfl, hst, hik, hdr⟩ := hrel
      have HDR := Lib.hid hdr
      have HIK := Lib.hid hik
      have HST := Lib.hid hst
      obtain ⟨L1, hD1, hab, hft, htr⟩ := hst
      have HD1 := Lib.hid hD1
      have HAB := Lib.hid hab
      have HFT := Lib.hid hft
      have HTR := Lib.hid htr
      clear hdr hik hD1 hab hft htr
      have hfoot : Hid (∀ (S : Nat → Prop) W, Turn (foot bm []) w2 W → Below (w.heap.size + 2) w2 W) := Lib.hid (fun S W hT => hT.below hsz2 (by rintro i hi (rfl | ⟨x, hx, _⟩); omega; simp at hx))
      by_cases hlt : k < m
      · obtain ⟨j, hj⟩ : ∃ j, m - k = j + 1 := ⟨m - k - 1, by omega⟩
        have HRD : Hid (∀ W, DevAt W bd bm L1 → Calls Tryz.prog 64 #[.pointer (some ⟨bd, 0, none⟩), .string s, .int .i64 ak] W (ReadPost W bd bm L1 (dRead Dk s ak))) := Lib.hid (fun W hW => by
          have := read_any s ak bd bm L1 W hW (by rw [HAB.out]; exact HIK.out) hs
          rw [HAB.out] at this; exact this)
        have HDU : Hid (dReads s (m - k) Dk ak = match dRead Dk s ak with | none => none | some (D', _, a') => dReads s j D' a') := Lib.hid (by rw [hj]; rfl)
        have hinv := Lib.hid (fun D' id a' (e : dRead Dk s ak = some (D', id, a')) => dRead_inv s Dk ak HIK.out e)
        cases hrd : dRead Dk s ak with
        | none =>
          have hRn : R = none := by rw [HR2.out, HDR.out, HDU.out, hrd]
          subst hRn
          go_wp2_with (go_at_call 64; refine (HRD.out _ HD1.out).mono ?_; rw [hrd]; rintro e w4 ⟨rfl, hT4⟩)
          have hB4 := hfoot.out (fun _ => False) w4 (HTR.out.trans hT4 (fun i hi hf => by rcases HFT.out i hf with h | h; exact h; omega))
          exact leaf_bad rfl rfl (Boxed.below HBX2.out hB4 (by omega)) (Boxed.below HBX3.out hB4 (by omega)) (hW0.trans (hB4.mono (by omega)))
        | some rr =>
          obtain ⟨D', id', a'⟩ := rr
          go_wp2_with (go_at_call 64; refine (HRD.out _ HD1.out).mono ?_; rw [hrd]; rintro e w4 ⟨rfl, hst4⟩)
          refine ⟨⟨k + 1, D', a', by omega, by simp, rfl, Step.join HFT.out HTR.out hst4, hinv.out _ _ _ hrd, ?_⟩, by simp [intOf]; omega⟩
          rw [HDR.out, HDU.out, hrd, show m - (k + 1) = j by omega]
      · have hkm : k = m := by omega
        subst hkm
        have HR3 : Hid (R = if dSave Dk = s then some Dk else none) := Lib.hid (by rw [HR2.out, HDR.out, Nat.sub_self]; rfl)
        have HSV : Hid (Calls Tryz.prog 17 #[.pointer (some ⟨bd, 0, none⟩)] wr fun e w' => e = .returned (.string (dSave Dk)) ∧ Below wr.heap.size wr w') := Lib.hid (by
          have := save_any bd bm L1 wr HD1.out (by rw [HAB.out]; exact HIK.out)
          rw [HAB.out] at this; exact this)
        have hB3 := hfoot.out (fun _ => False) wr HTR.out
        by_cases hsv : dSave Dk = s
        · have hRs : R = some Dk := by rw [HR3.out, if_pos hsv]
          subst hRs
          have heq : ((dSave Dk).toList == s.toList) = true := by rw [hsv]; simp
          go_wp2_with (first | (go_at_call 17; refine HSV.out.mono ?_; rintro e w4 ⟨rfl, hb4⟩; have p2 := Boxed.below' (Boxed.below HBX2.out hB3 (by omega)) hb4; have p3 := Boxed.below' (Boxed.below HBX3.out hB3 (by omega)) hb4; have f2 := p2.frozen; have f3 := p3.frozen; have c2 := p2.cell; have c3 := p3.cell; have P2 := Lib.hid p2; have P3 := Lib.hid p3; clear p2 p3) | (go_at_call 65; refine (must_any _ _).mono ?_; rintro e w' ⟨he, rfl⟩; simp only [if_true, Bool.false_eq_true, if_false] at he; subst he))
          have hwb : Below w.heap.size w w4 := (hW0.trans (hB3.mono (by omega))).trans (hb4.mono (by have := hB3.size; omega))
          refine leaf_ok rfl rfl (Boxed.other (Boxed.set _ P2.out) (by omega) _) (Boxed.set _ (Boxed.other P3.out (by omega) _)) ?_
          have hfL : ∀ i, foot bm L1 i → w.heap.size + 2 ≤ i := by
            intro i hi
            rcases HFT.out i hi with h | h
            · rcases h with rfl | ⟨x, hx, _⟩
              · exact hbm'
              · simp at hx
            · omega
          have hTT : Turn (fun i => i = w.heap.size ∨ i = w.heap.size + 1) w4 ((w4.setCell ⟨w.heap.size, 0, none⟩ (.pointer (some ⟨bd, 0, none⟩))).setCell ⟨w.heap.size + 1, 0, none⟩ (.int .i64 0)) := ((Turn.refl _ w4).setCell (fun _ => .inl rfl) _).setCell (fun _ => .inr rfl) _
          refine ⟨⟨bd, bm, L1, rfl, ?_, HAB.out, by omega, fun i hi => by have := hfL i hi; omega⟩, hwb.trans (hTT.below hwb.size (by intro i hi; omega))⟩
          refine (HD1.out.below hb4).turn_ns hTT ?_ (by omega) (fun i hi => by have := hfL i hi; omega)
          rintro i (rfl | rfl)
          · exact box_ns P2.out (by simp)
          · exact box_ns P3.out (by simp)
        · have hRn : R = none := by rw [HR3.out, if_neg hsv]
          subst hRn
          have hne : ((dSave Dk).toList == s.toList) = false := by simp; exact fun e => hsv (ba_inj e)
          go_wp2_with (first | (go_at_call 17; refine HSV.out.mono ?_; rintro e w4 ⟨rfl, hb4⟩) | (go_at_call 65; refine (must_any _ _).mono ?_; rintro e w' ⟨he, rfl⟩; simp only [if_true, Bool.false_eq_true, if_false] at he; subst he))
          exact leaf_bad rfl rfl (Boxed.below' (Boxed.below HBX2.out hB3 (by omega)) hb4) (Boxed.below' (Boxed.below HBX3.out hB3 (by omega)) hb4) ((hW0.trans (hB3.mono (by omega))).trans (hb4.mono (by have := hB3.size; omega)))
end Go.Proofs.YtjabhhpmofodlaaGreatDoor
