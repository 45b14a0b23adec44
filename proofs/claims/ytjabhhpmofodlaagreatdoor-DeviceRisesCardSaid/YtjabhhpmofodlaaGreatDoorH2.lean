/- rivuletlaw19.fixed. -/
import Derived.Test.YtjabhhpmofodlaaGreatDoorH1
import Derived.Deep.RegionHeld3
namespace Go.Proofs.YtjabhhpmofodlaaGreatDoor
open Go.RowKit
set_option linter.unusedVariables false
set_option linter.unusedSimpArgs false
def cA : ByteArray := ⟨#[97, 47, 43]⟩
def cB : ByteArray := ⟨#[97, 47, 98]⟩
def cS : ByteArray := ⟨#[1, 1, 1, 3, 97, 47, 43, 1, 3, 5]⟩
def X1 : List D1 := [(1, [], [])]
def X2 : List D1 := [(1, [cA], [])]
def X3 : List D1 := [(1, [cA], [(3, 5)])]
def cE : Ev := ⟨3, 5, cB, ⟨#[]⟩, 1⟩
theorem St.alloc_ev {B : Nat} {w : World} {bd bm : Nat} {D : List D1} (h : St B w bd bm D) {o : Obj} : St B (w.alloc o) bd bm D := h.below (below_al (Below.refl _ _) o)
theorem j1 : dJoin [] 1 = (0, X1) := by kernel_rfl
theorem j2 : dJoin X1 1 = (9, X1) := by kernel_rfl
theorem j3 : dJoin X1 (-1) = (1, X1) := by kernel_rfl
theorem q1 : dAsk X1 1 cA true = (0, X2) := by kernel_rfl
theorem q2 : dAsk X2 1 cA true = (9, X2) := by kernel_rfl
theorem q3 : dAsk X2 2 ⟨#[97]⟩ true = (8, X2) := by kernel_rfl
theorem q4 : dAsk X2 1 ⟨#[97]⟩ false = (8, X2) := by kernel_rfl
theorem q5 : dAsk X2 1 ⟨#[47, 47]⟩ true = (1, X2) := by kernel_rfl
theorem o1 : dOffer X2 cE = ([1], X3) := by kernel_rfl
theorem o2 : dOffer X3 cE = ([], X3) := by kernel_rfl
theorem o3 : dOffer X3 ⟨3, 6, cB, ⟨#[]⟩, 0⟩ = ([], X3) := by kernel_rfl
theorem v1 : dSave X3 = cS := by kernel_rfl
theorem l1 : dLoad cS = some X3 := by kernel_rfl
theorem l2 : dLoad (cS ++ ⟨#[120]⟩) = none := by kernel_rfl
theorem z1 : dLeave X3 1 = (0, []) := by kernel_rfl
theorem dI : decide (([1] : List Int) = [1]) = true := rfl
theorem dS : decide (([cA] : List ByteArray) = [cA]) = true := by simp
theorem dM : decide (([(3, 5)] : List Mk) = [(3, 5)]) = true := rfl
theorem hcS : (cS.toList == [1, 1, 1, 3, 97, 47, 43, 1, 3, 5]) = true := by kernel_rfl
theorem fil1 : dFil X3 1 = [cA] := by kernel_rfl
theorem fil2 : dFil X3 2 = [] := by kernel_rfl
theorem mk1 : dMarks X3 1 = [(3, 5)] := by kernel_rfl
theorem ids1 : dIds X3 = [1] := by kernel_rfl
theorem sz1 : cA.size ≤ 1000000 := by decide
theorem sz2 : (⟨#[97]⟩ : ByteArray).size ≤ 1000000 := by decide
theorem sz3 : (⟨#[47, 47]⟩ : ByteArray).size ≤ 1000000 := by decide
theorem sz4 : cE.t.size ≤ 1000000000 := by decide
/-- Rows begin with a string: what begins otherwise may turn. -/
theorem DevAt.turn_0 {w w' : World} {bd bm : Nat} {L : List G} {S : Nat → Prop} (h : DevAt w bd bm L) (ht : Turn S w w') (hS : ∀ i, S i → ∀ s, w.cell? ⟨i, 0, none⟩ ≠ some (.string s)) (h1 : ¬ S bd) (h2 : ∀ i, foot bm L i → ¬ S i) : DevAt w' bd bm L := by
  refine ⟨(ht.block _ (Array.getElem?_eq_some_iff.1 h.box).1 h1).trans h.box, h.map.turn ht (h2 _ (.inl rfl)), fun x hx => ?_, h.sorted, h.bos, h.bks, h.bm_ne⟩
  obtain ⟨vf, hb, ⟨p, cap, rfl, hc⟩, hm⟩ := h.ones x hx
  refine ⟨_, (ht.block _ (Array.getElem?_eq_some_iff.1 hb).1 (h2 _ (.inr ⟨x, hx, .inl rfl⟩))).trans hb, ⟨p, cap, rfl, fun j hj => ?_⟩, hm.turn ht (h2 _ (.inr ⟨x, hx, .inr rfl⟩))⟩
  obtain ⟨g, hp, hg, hcell⟩ := hc j hj
  refine ⟨g, hp, Nat.lt_of_lt_of_le hg ht.size, ?_⟩
  obtain ⟨g', hp', _, hc0⟩ := hc 0 (by omega)
  rw [hp] at hp'
  simp only [Option.some.injEq, Addr.mk.injEq] at hp'
  obtain ⟨rfl, _⟩ := hp'
  have hn : ¬ S g := fun hs => by
    have := hS g hs
    rw [hc0] at this
    simp [strs] at this
  exact (World.cell?_of_block (a := ⟨g, j, none⟩) (ht.block g hg hn)).trans hcell
theorem St.turn_0 {B : Nat} {w w' : World} {bd bm : Nat} {D : List D1} {S : Nat → Prop} (h : St B w bd bm D) (ht : Turn S w w') (hS : ∀ i, S i → ∃ k n, w.cell? ⟨i, 0, none⟩ = some (.int k n)) : St B w' bd bm D := by
  obtain ⟨L, h1, h2, h3, h4⟩ := h
  refine ⟨L, h1.turn_0 ht ?_ ?_ ?_, h2, h3, h4⟩
  · intro i hi s e
    obtain ⟨k, n, hc⟩ := hS i hi
    rw [hc] at e; cases e
  · intro hs
    obtain ⟨k, n, hc⟩ := hS bd hs
    rw [h1.bd_cell] at hc; cases hc
  · intro i hf hs
    obtain ⟨k, n, hc⟩ := hS i hs
    exact not_dull_int hc (h1.dull i hf)
theorem rat1 {w : World} {g cap : Nat} {u : Value} (h : w.cell? ⟨g, 0, none⟩ = some u) : RAt w w.heap.size (.slice (some ⟨g, 0, none⟩) 1 cap) [u] :=
  ⟨_, cap, rfl, fun j hj => ⟨g, rfl, World.block_lt_of_cell? w _ h, (by cases j with | zero => exact h | succ j => simp at hj)⟩⟩
theorem mat1 {w : World} {g cap : Nat} {a b : Int} (h : w.cell? ⟨g, 0, none⟩ = some (.int .i64 a)) (h2 : w.cell? ⟨g, 1, none⟩ = some (.int .i64 b)) : MsAt w w.heap.size (.slice (some ⟨g, 0, none⟩) 1 cap) [(a, b)] :=
  ⟨_, cap, rfl, fun j hj => ⟨g, rfl, World.block_lt_of_cell? w _ h, (by cases j with | zero => exact ⟨h, h2⟩ | succ j => simp at hj)⟩⟩
theorem below_al' {w w1 : World} (h : Below w.heap.size w w1) (o : Obj) : Below w1.heap.size w1 (w1.alloc o) := below_al (Below.refl _ _) o
def evObj (s k : Int) : Obj := .cells #[.int .i64 3, .int .i64 s, .string cB, .string ⟨#[]⟩, .int .i64 k] 37
theorem ev_cells {w : World} {b : Nat} {s k : Int} (h : w.heap[b]? = some (evObj s k)) : w.cell? ⟨b, 0, none⟩ = some (.int .i64 3) ∧ w.cell? ⟨b, 1, none⟩ = some (.int .i64 s) ∧ w.cell? ⟨b, 2, none⟩ = some (.string ⟨#[97, 47, 98]⟩) ∧ w.cell? ⟨b, 3, none⟩ = some (.string ⟨#[]⟩) ∧ w.cell? ⟨b, 4, none⟩ = some (.int .i64 k) :=
  ⟨cell_arr h 0, cell_arr h 1, cell_arr h 2, cell_arr h 3, cell_arr h 4⟩
theorem ev_keep {B : Nat} {w w' : World} {b : Nat} {s k : Int} (h : w.heap[b]? = some (evObj s k)) (hk : Kp B w w') : w'.heap[b]? = some (evObj s k) :=
  (hk.keep b (Array.getElem?_eq_some_iff.1 h).1 (not_dull_int (ev_cells h).1)).trans h
set_option maxRecDepth 100000 in
set_option maxHeartbeats 8000000 in
theorem fixed_any (w : World) : Calls Tryz.prog 18 #[] w fun e w' => e = .returned (.bool true) ∧ Below w.heap.size w w' := by
  have m1 : True := trivial
  have m2 : True := trivial
  have n1 : True := trivial
  have n2 : True := trivial
  have n3 : True := trivial
  have n4 : True := trivial
  go_enter Tryz.func18, Tryz.ntmps18
  go_wp2_with (first | (go_at_call 20; refine (new_st _).mono ?_; rintro e w1 ⟨⟨bd, bm, rfl, s1⟩, hb1⟩; have g1 := hb1.size; have HGE := Lib.hid g1; have HE1 : Hid ((w1.alloc (evObj 5 1)).heap[w1.heap.size]? = some (evObj 5 1)) := Lib.hid (World.alloc_heap_new w1 _)) |
    (go_at_call 23; go_must (first | (clear m1; refine (join_st s1.alloc_ev (by simp; omega) 1).mono ?_; rw [j1]; rintro e w2 ⟨rfl, s2, t2⟩; have g2 : w.heap.size ≤ w2.heap.size := Nat.le_trans (by simp; omega) t2.size; have HE2 := Lib.hid (ev_keep HE1.out t2); have u2 : Below w.heap.size w w2 := (hb1.alloc hb1.size _).trans t2.below) | (clear m2; refine (join_st s2 g2 1).mono ?_; rw [j2]; rintro e w3 ⟨rfl, s3, t3⟩; have g3 := Nat.le_trans g2 t3.size; have HE3 := Lib.hid (ev_keep HE2.out t3); have u3 := u2.trans t3.below) | (refine (join_st s3 g3 (-1)).mono ?_; rw [j3]; rintro e w4 ⟨rfl, s4, t4⟩; have g4 := Nat.le_trans g3 t4.size; have HE4 := Lib.hid (ev_keep HE3.out t4); have u4 := u3.trans t4.below))) |
    (go_at_call 25; go_must (first | (clear n1; refine (ask_st s4 g4 1 cA true (by omega) sz1).mono ?_; rw [q1]; rintro e w5 ⟨rfl, s5, t5⟩; have g5 := Nat.le_trans g4 t5.size; have HE5 := Lib.hid (ev_keep HE4.out t5); have u5 := u4.trans t5.below) | (clear n2; refine (ask_st s5 g5 1 cA true (by omega) sz1).mono ?_; rw [q2]; rintro e w6 ⟨rfl, s6, t6⟩; have g6 := Nat.le_trans g5 t6.size; have HE6 := Lib.hid (ev_keep HE5.out t6); have u6 := u5.trans t6.below) | (clear n3; refine (ask_st s6 g6 2 ⟨#[97]⟩ true (by omega) sz2).mono ?_; rw [q3]; rintro e w7 ⟨rfl, s7, t7⟩; have g7 := Nat.le_trans g6 t7.size; have HE7 := Lib.hid (ev_keep HE6.out t7); have u7 := u6.trans t7.below) | (clear n4; refine (ask_st s7 g7 1 ⟨#[97]⟩ false (by omega) sz2).mono ?_; rw [q4]; rintro e w8 ⟨rfl, s8, t8⟩; have g8 := Nat.le_trans g7 t8.size; have HE8 := Lib.hid (ev_keep HE7.out t8); have u8 := u7.trans t8.below) | (refine (ask_st s8 g8 1 ⟨#[47, 47]⟩ true (by omega) sz3).mono ?_; rw [q5]; rintro e w9 ⟨rfl, s9, t9⟩; have g9 := Nat.le_trans g8 t9.size; have HE9 := Lib.hid (ev_keep HE8.out t9); have u9 := u8.trans t9.below))))
  clear s1 hb1 g1 s2 t2 u2 s3 t3 u3 s4 t4 u4 s5 t5 u5 s6 t6 u6 s7 t7 u7 s8 t8 u8 t9 g2 g3 g4 g5 g6 g7 g8 HE1 HE2 HE3 HE4 HE5 HE6 HE7 HE8
  have p1 : True := trivial
  have s9d : St w.heap.size w9.drew bd bm X2 := s9.below (Below.refl _ _).drew
  have hk0 := Lib.hid (ev_cells HE9.out)
  have HE9d : Hid (w9.drew.heap[w1.heap.size]? = some (evObj 5 1)) := HE9
  have hk9 := Lib.hid (ev_cells HE9d.out)
  have g9d : w.heap.size ≤ w9.drew.heap.size := g9
  have u9d : Below w.heap.size w w9.drew := u9.drew
  have hew1 : w1.heap.size < w9.drew.heap.size := (Array.getElem?_eq_some_iff.1 HE9d.out).1
  clear s9 u9 g9 HE9
  go_region_held3 (fun W => W.cell? ⟨w1.heap.size, 0, none⟩ = some (.int .i64 3) ∧ W.cell? ⟨w1.heap.size, 1, none⟩ = some (.int .i64 5) ∧ W.cell? ⟨w1.heap.size, 2, none⟩ = some (.string ⟨#[97, 47, 98]⟩) ∧ W.cell? ⟨w1.heap.size, 3, none⟩ = some (.string ⟨#[]⟩) ∧ W.cell? ⟨w1.heap.size, 4, none⟩ = some (.int .i64 1)) (first | exact hk9.out | exact hk11.out | exact hk10.out) (first | (go_at_call 26; go_must (first | (clear p1; refine (offer_st s9d g9d cE sz4).mono ?_; rw [o1]; rintro e w10 ⟨⟨v10, rfl, ho10⟩, s10, t10⟩; obtain ⟨gx, cx, rfl, hgx, hgx2, hcx⟩ := ho10.open_ (by decide); have HCX := Lib.hid (hcx 0 (by decide)); have g10 := Nat.le_trans g9d t10.size; have HE10 := Lib.hid (ev_keep HE9d.out t10); have hk10 := Lib.hid (ev_cells HE10.out); have u10 := u9d.trans t10.below; clear ho10 hcx) | (refine (offer_st s10 g10 cE sz4).mono ?_; rw [o2]; rintro e w11 ⟨⟨v11, rfl, ho11⟩, s11, t11⟩; obtain ⟨py, cy, rfl⟩ := (own_at ho11).nil_open rfl; have g11 := Nat.le_trans g10 t11.size; have HE11 := Lib.hid (ev_keep HE10.out t11); have hk11 := Lib.hid (ev_cells HE11.out); have u11 := u10.trans t11.below; have HCX1 := Lib.hid (t11.cell HCX.out (not_dull_int HCX.out)); clear ho11))))
  clear s9d u9d g9d HE9d hk9 s10 t10 u10 g10 HE10 hk10 t11 HCX
  obtain ⟨e0, e1, e2, e3, e4⟩ := hk11.out
  have f1 : w11.frozen? ⟨w1.heap.size, 1, none⟩ = false := by unfold World.frozen?; rw [HE11.out]; simp [evObj]
  have f4 : w11.frozen? ⟨w1.heap.size, 4, none⟩ = false := by unfold World.frozen?; rw [HE11.out]; simp [evObj]
  obtain ⟨w12, hw12⟩ : ∃ w12, (w11.setCell ⟨w1.heap.size, 1, none⟩ (.int .i64 6)).setCell ⟨w1.heap.size, 4, none⟩ (.int .i64 0) = w12 := ⟨_, rfl⟩
  have hT12 : Turn (· = w1.heap.size) w11 w12 := by
    rw [← hw12]
    exact Turn.setCell (S := (· = w1.heap.size)) (Turn.setCell (S := (· = w1.heap.size)) (Turn.refl _ w11) (p := ⟨w1.heap.size, 1, none⟩) (fun _ => rfl) _) (p := ⟨w1.heap.size, 4, none⟩) (fun _ => rfl) _
  have s12 : St w.heap.size w12 bd bm X3 := s11.turn_0 hT12 (by rintro i rfl; exact ⟨_, _, e0⟩)
  have hwe : w.heap.size ≤ w1.heap.size := HGE.out
  have u12 : Below w.heap.size w w12 := u11.trans (hT12.below g11 (by rintro i hi rfl; omega))
  have g12 : w.heap.size ≤ w12.heap.size := Nat.le_trans g11 hT12.size
  have HCX2 : Hid (w12.cell? ⟨gx, 0, none⟩ = some (.int .i64 1)) := Lib.hid ((World.cell?_of_block (a := ⟨gx, 0, none⟩) (hT12.block gx (World.block_lt_of_cell? w11 _ HCX1.out) (by omega))).trans HCX1.out)
  have HW12 := Lib.hid hw12
  clear s11 u11 g11 HE11 hk11 HCX1 hT12 hwe hw12 hew1
  have r1 : True := trivial
  have hsum : ¬ 9223372036854775807 < cS.size + (⟨#[120]⟩ : ByteArray).size := by decide
  have hce : (⟨#[120]⟩ : ByteArray).size = 1 := by decide
  go_wp2_with (first | (go_at_call 26; rw [HW12.out]; refine (offer_st s12 g12 ⟨3, 6, cB, ⟨#[]⟩, 0⟩ (by decide)).mono ?_; rw [o3]; rintro e w13 ⟨⟨v13, rfl, ho13⟩, s13, t13⟩; obtain ⟨pz, cz, rfl⟩ := (own_at ho13).nil_open rfl; have g13 := Nat.le_trans g12 t13.size; have u13 := u12.trans t13.below; have HCX3 := Lib.hid (t13.cell HCX2.out (not_dull_int HCX2.out)); clear ho13) |
    (go_at_call 17; refine (save_st s13).mono ?_; rw [v1]; rintro e w14 ⟨rfl, hb14⟩; have s14 := s13.below hb14; have g14 := Nat.le_trans g13 hb14.size; have u14 := u13.trans (hb14.mono g13); have HCX4 := Lib.hid (below_cell hb14 HCX3.out)) |
    (go_at_call 14; go_must (first | (clear r1; have hl1 := load_any cS w14 (by decide); rw [l1] at hl1; refine hl1.mono ?_; clear hl1; rintro e w15 ⟨⟨bd2, bm2, L2, rfl, hD2, hab2, hbd2, hft2⟩, hb15⟩) | (have hl2 := load_any (cS ++ ⟨#[120]⟩) w15 (by decide); rw [l2] at hl2; refine hl2.mono ?_; clear hl2; rintro e w16 ⟨rfl, hb16⟩))))
  obtain ⟨L, hD14, hab, hft, hI⟩ := s14
  have hD16 := (hD14.below hb15).below hb16
  have hfl := Lib.hid hD14.lt
  have g16 : w.heap.size ≤ w16.heap.size := Nat.le_trans g14 (Nat.le_trans hb15.size hb16.size)
  have u16 : Below w.heap.size w w16 := (u14.trans (hb15.mono g14)).trans (hb16.mono (Nat.le_trans g14 hb15.size))
  have hlv := leave_any 1 bd bm L w16 hD16 (by omega)
  rw [hab, z1] at hlv
  have HLV := Lib.hid hlv
  have HX6 := Lib.hid (below_cell hb16 (below_cell hb15 HCX4.out))
  have HAB := Lib.hid hab
  have HAB2 := Lib.hid hab2
  clear hlv hab hab2 s12 g12 u12 t13 s13 g13 u13 hb14 g14 u14 HCX2 HCX3 HCX4 e0 e1 e2 e3 e4 f1 f4 HW12
  have y1 : True := trivial
  have i1 : True := trivial
  have f1 : True := trivial
  go_wp2_with (first | (go_at_call 24; refine HLV.out.mono ?_; rintro e w17 ⟨rfl, hst17⟩; obtain ⟨s17, t17⟩ := St.step hft g16 hst17 dInv_nil hD16; have o17 : St w14.heap.size w17 bd2 bm2 X3 := ⟨L2, (hD2.below hb16).turn hst17.turn_ hD16.dull (fun hf => by have := hfl.out _ hf; omega) (fun i hi hf => by have := hft2 i hi; have := hfl.out i hf; omega), HAB2.out, hft2, hI⟩; have HX7 := Lib.hid (t17.cell HX6.out (not_dull_int HX6.out)); have u17 := u16.trans t17.below; have g17 := Nat.le_trans g16 t17.size; clear hst17 hD2 hb15 hb16 hD14 hD16 hft hft2 hI g16 u16 t17 HX6 hfl; have hcs := hcS) |
    (go_at_call 73; go_must (first | (clear y1; refine (rints_any _ _ [1] [1] _ (rat1 (below_cell (below_al (Below.refl _ _) _) HX7.out)) (rat1 (cell_arr (World.alloc_heap_new w17 _) 0)) (by decide) (by decide)).mono ?_; rw [dI]; rintro e w18 ⟨rfl, hb18⟩; have b18 : Below w17.heap.size w17 w18 := (below_al (Below.refl _ _) _).trans (hb18.mono (by simp))) | (refine (rints_any _ _ [1] [1] _ ((own_at ho20).below (below_al (Below.refl _ _) _) |>.mono (by simp)) (rat1 (cell_arr (World.alloc_heap_new w20 _) 0)) (by decide) (by decide)).mono ?_; rw [dI]; rintro e w21 ⟨rfl, hb21⟩; have b21 : Below w17.heap.size w17 w21 := below_go b20 ((below_al (Below.refl _ _) _).trans (hb21.mono (by simp)))))) |
    (go_at_call 33; go_must (first | (clear i1; refine (ids_st (s17.below b18)).mono ?_; rintro e w19 ⟨⟨v19, rfl, ho19⟩, hb19⟩; obtain ⟨pd, cd, rfl⟩ := (own_at ho19).nil_open rfl; have b19 := below_go b18 hb19; clear ho19) | (refine (ids_st (o17.below b19)).mono ?_; rw [ids1]; rintro e w20 ⟨⟨v20, rfl, ho20⟩, hb20⟩; have b20 := below_go b19 hb20))) |
    (go_at_call 22; go_must (first | (clear f1; refine (filters_st (o17.below b21) 1 (by omega)).mono ?_; rw [fil1]; rintro e w22 ⟨⟨v22, rfl, ho22⟩, hb22⟩; have b22 := below_go b21 hb22) | (refine (filters_st (o17.below b25) 2 (by omega)).mono ?_; rw [fil2]; rintro e w26 ⟨⟨v26, rfl, ho26⟩, hb26⟩; have b26 := below_go b25 hb26; obtain ⟨pf, cf, rfl⟩ := (OwnS.rat ho26).nil_open rfl))) |
    (go_at_call 32; go_must (refine (same_any _ _ [cA] [cA] _ ((OwnS.rat ho22).below (below_al (Below.refl _ _) _) |>.mono (by simp)) (rat1 (cell_arr (World.alloc_heap_new w22 _) 0)) (by decide) (by decide)).mono ?_; rw [dS]; rintro e w23 ⟨rfl, hb23⟩; have b23 : Below w17.heap.size w17 w23 := below_go b22 ((below_al (Below.refl _ _) _).trans (hb23.mono (by simp))))) |
    (go_at_call 21; go_must (refine (marks_st (o17.below b23) 1 (by omega)).mono ?_; rw [mk1]; rintro e w24 ⟨⟨v24, rfl, ho24⟩, hb24⟩; have b24 := below_go b23 hb24)) |
    (go_at_call 34; go_must (refine (equal_any _ _ [(3, 5)] [(3, 5)] _ ((OwnM.at_ ho24).below (below_al (Below.refl _ _) _) |>.mono (by simp)) (mat1 (cell_arr (World.alloc_heap_new w24 _) 0) (cell_arr (World.alloc_heap_new w24 _) 1)) (by decide) (by decide)).mono ?_; rw [dM]; rintro e w25 ⟨rfl, hb25⟩; have b25 : Below w17.heap.size w17 w25 := below_go b24 ((below_al (Below.refl _ _) _).trans (hb25.mono (by simp))))))
  go_ret
  exact ⟨rfl, u17.trans (b26.mono g17)⟩
end Go.Proofs.YtjabhhpmofodlaaGreatDoor
