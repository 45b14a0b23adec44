/- Two devices side by side; a script's calls, kept; sizes. -/
import Derived.Test.YtjabhhpmofodlaaGreatDoorL2
import Derived.Test.YtjabhhpmofodlaaGreatDoorQ2
namespace Go.Proofs.YtjabhhpmofodlaaGreatDoor
open Go.RowKit
set_option linter.unusedVariables false
set_option linter.unusedSimpArgs false
/-- Two devices that lie apart. -/
structure Two (B : Nat) (w : World) (bd bm bd2 bm2 : Nat) (D D2 : List D1) : Prop where
  two : ∃ L L2, DevAt w bd bm L ∧ ab L = D ∧ DevAt w bd2 bm2 L2 ∧ ab L2 = D2 ∧ (∀ i, foot bm L i → B ≤ i) ∧ (∀ i, foot bm2 L2 i → B ≤ i) ∧ (∀ i, foot bm L i → ¬ foot bm2 L2 i) ∧ ¬ foot bm2 L2 bd ∧ ¬ foot bm L bd2
  inv : DInv D
  inv2 : DInv D2
theorem Two.swap {B : Nat} {w : World} {bd bm bd2 bm2 : Nat} {D D2 : List D1} (h : Two B w bd bm bd2 bm2 D D2) : Two B w bd2 bm2 bd bm D2 D := by
  obtain ⟨⟨L, L2, h1, h2, h3, h4, h5, h6, h7, h8, h9⟩, hi, hi2⟩ := h
  exact ⟨⟨L2, L, h3, h4, h1, h2, h6, h5, fun i hi hj => h7 i hj hi, h9, h8⟩, hi2, hi⟩
theorem Two.st {B : Nat} {w : World} {bd bm bd2 bm2 : Nat} {D D2 : List D1} (h : Two B w bd bm bd2 bm2 D D2) : St B w bd bm D := by
  obtain ⟨⟨L, L2, h1, h2, h3, h4, h5, h6, h7, h8, h9⟩, hi, hi2⟩ := h
  exact ⟨L, h1, h2, h5, hi⟩
theorem Two.below {B : Nat} {w w' : World} {bd bm bd2 bm2 : Nat} {D D2 : List D1} (h : Two B w bd bm bd2 bm2 D D2) (hb : Below w.heap.size w w') : Two B w' bd bm bd2 bm2 D D2 := by
  obtain ⟨⟨L, L2, h1, h2, h3, h4, h5, h6, h7, h8, h9⟩, hi, hi2⟩ := h
  exact ⟨⟨L, L2, h1.below hb, h2, h3.below hb, h4, h5, h6, h7, h8, h9⟩, hi, hi2⟩
/-- One of the two goes a step; the other one stays. -/
theorem Two.step {B : Nat} {w w' : World} {bd bm bd2 bm2 : Nat} {L L2 : List G} {D' : List D1} (hB : B ≤ w.heap.size) (h1 : DevAt w bd bm L) (h3 : DevAt w bd2 bm2 L2) (h5 : ∀ i, foot bm L i → B ≤ i) (h6 : ∀ i, foot bm2 L2 i → B ≤ i) (h7 : ∀ i, foot bm L i → ¬ foot bm2 L2 i) (h8 : ¬ foot bm2 L2 bd) (h9 : ¬ foot bm L bd2) (hi2 : DInv (ab L2)) (hst : Step w bd bm L w' D') (hI : DInv D') : Two B w' bd bm bd2 bm2 D' (ab L2) ∧ Kp B w w' := by
  obtain ⟨s1, k1⟩ := St.step h5 hB hst hI h1
  obtain ⟨L', g1, g2, g3, g4⟩ := hst
  have hlt2 := h3.lt
  have hbd2 := (Array.getElem?_eq_some_iff.1 h3.box).1
  refine ⟨⟨⟨L', L2, g1, g2, h3.turn g4 h1.dull h9 (fun i hi hf => h7 i hf hi), rfl, ?_, h6, ?_, h8, ?_⟩, hI, hi2⟩, k1⟩
  · intro i hf
    rcases g3 i hf with h | h
    · exact h5 i h
    · omega
  · intro i hf hf2
    rcases g3 i hf with h | h
    · exact h7 i h hf2
    · have := hlt2 i hf2; omega
  · intro hf
    rcases g3 _ hf with h | h
    · exact h9 h
    · omega
theorem Two.offer {B : Nat} {w : World} {bd bm bd2 bm2 : Nat} {D D2 : List D1} (h : Two B w bd bm bd2 bm2 D D2) (hB : B ≤ w.heap.size) (e : Ev) (het : e.t.size ≤ 1000000000) :
    Calls Tryz.prog 26 #[.pointer (some ⟨bd, 0, none⟩), evV e] w fun r w' => (∃ v, r = .returned v ∧ OwnI w' w.heap.size v (dOffer D e).1) ∧ Two B w' bd bm bd2 bm2 (dOffer D e).2 D2 ∧ Kp B w w' := by
  obtain ⟨⟨L, L2, h1, rfl, h3, rfl, h5, h6, h7, h8, h9⟩, hi, hi2⟩ := h
  refine (offer_any e bd bm L w h1 hi het).mono ?_
  rintro r w' ⟨hr, hs⟩
  exact ⟨hr, Two.step hB h1 h3 h5 h6 h7 h8 h9 hi2 hs (dOffer_inv hi e)⟩
/-- A device just loaded lies apart. -/
theorem Two.of_load {B : Nat} {w4 w : World} {bd bm bd2 bm2 : Nat} {D D2 : List D1} (h : St B w4 bd bm D) (hb : Below w4.heap.size w4 w) {L2 : List G} (h2 : DevAt w bd2 bm2 L2) (ha : ab L2 = D2) (hbd2 : w4.heap.size ≤ bd2) (hf2 : ∀ i, foot bm2 L2 i → w4.heap.size ≤ i) (hB : B ≤ w4.heap.size) (hI : DInv D2) : Two B w bd bm bd2 bm2 D D2 := by
  obtain ⟨L, g1, g2, g3, g4⟩ := h
  have hl := g1.lt
  have hbd := (Array.getElem?_eq_some_iff.1 g1.box).1
  refine ⟨⟨L, L2, g1.below hb, g2, h2, ha, g3, fun i hi => by have := hf2 i hi; omega, fun i hi hj => ?_, fun hf => ?_, fun hf => ?_⟩, g4, hI⟩
  · have := hl i hi; have := hf2 i hj; omega
  · have := hf2 _ hf; omega
  · have := hl _ hf; omega
/-! ### a script's calls -/
def OpWf (o : Op) : Prop := -9223372036854775808 ≤ o.id ∧ o.id ≤ 9223372036854775807 ∧ o.f.size ≤ 9223372036854775807 ∧ o.e.t.size ≤ 9223372036854775807 ∧ o.e.l.size ≤ 9223372036854775807
/-- The calls of a script, in the world at hand. -/
def OpsP (w : World) (p : Option Addr) (l : List Op) : Prop := ∀ j (hj : j < l.length), ∃ g, p = some ⟨g, 0, none⟩ ∧ ∀ i u, (opCells l[j])[i]? = some u → w.cell? ⟨g, j * 9 + i, none⟩ = some u
theorem OpsP.kp {w w' : World} {p : Option Addr} {B : Nat} {l : List Op} (h : OpsP w p l) (hk : Kp B w w') : OpsP w' p l := by
  intro j hj
  obtain ⟨g, hp, hc⟩ := h j hj
  have hnd := not_dull_int (hc 0 _ rfl)
  exact ⟨g, hp, fun i u hu => hk.cell (hc i u hu) hnd⟩
theorem OpsP.turn {w w' : World} {p : Option Addr} {l : List Op} {S : Nat → Prop} (h : OpsP w p l) (ht : Turn S w w') (hS : ∀ g, p = some ⟨g, 0, none⟩ → 0 < l.length → ¬ S g) : OpsP w' p l := by
  intro j hj
  obtain ⟨g, hp, hc⟩ := h j hj
  refine ⟨g, hp, fun i u hu => ?_⟩
  have := hc i u hu
  exact (World.cell?_of_block (a := ⟨g, j * 9 + i, none⟩) (ht.block g (World.block_lt_of_cell? w _ this) (hS g hp (Nat.lt_of_le_of_lt (Nat.zero_le j) hj)))).trans this
theorem opsCut_mem {l : List Op} {o : Op} (h : o ∈ opsCut l) (hw : ∀ o ∈ l, OpWf o) : OpWf o ∧ o.f.size ≤ 120 ∧ o.e.t.size ≤ 120 := by
  obtain ⟨x, hx, rfl⟩ := List.mem_map.1 h
  have hx' := hw x (List.mem_of_mem_take hx)
  have h1 := cut120_size x.f
  have h2 := cut120_size x.e.t
  have h3 := cut120_size x.e.l
  exact ⟨⟨hx'.1, hx'.2.1, by simp [opCut]; omega, by simp [opCut]; omega, by simp [opCut]; omega⟩, h1, h2⟩
theorem opsCut_length (l : List Op) : (opsCut l).length ≤ 80 := by simp [opsCut]; omega
/-- A script cut: its cells, and what its calls are. -/
theorem script_of {w : World} {base : Nat} {v : Value} {l : List Op} (h : w.ownsRow base 39 9 v (opsCut l).length (opFlat (opsCut l))) (hw : ∀ o ∈ l, OpWf o) :
    ∃ (ops : List Op) (p : Option Addr) (cap : Nat), v = .slice p ops.length cap ∧ OpsP w p ops ∧ ops.length ≤ 80 ∧ (∀ o ∈ ops, OpWf o ∧ o.f.size ≤ 120 ∧ o.e.t.size ≤ 120) ∧ ∀ g, p = some ⟨g, 0, none⟩ → base ≤ g ∨ ops.length = 0 := by
  obtain ⟨p, cap, rfl, hc⟩ := own_ops h
  refine ⟨opsCut l, p, cap, rfl, fun j hj => ?_, opsCut_length l, fun o ho => opsCut_mem ho hw, ?_⟩
  · obtain ⟨g, hp, _, _, hcl⟩ := hc j hj
    exact ⟨g, hp, hcl⟩
  · intro g hp
    by_cases h0 : 0 < (opsCut l).length
    · obtain ⟨g', hp', hb, _⟩ := hc 0 h0
      rw [hp] at hp'
      cases hp'
      exact .inl hb
    · exact .inr (by omega)
/-! ### sizes -/
theorem dOne_size {acc : ByteArray} {x : D1} (h : XInv x) : (dOne acc x).size ≤ acc.size + 8010000 := by
  unfold dOne
  have h1 := dFs_size x.2.1 h.fs (acc ++ (vput x.1 ++ vput x.2.1.length))
  have h2 := vput_size x.1
  have h3 := vput_size x.2.1.length
  have h4 := marksS_size x.2.2
  have h5 := h.fl
  simp only [ByteArray.size_append] at *
  omega
theorem dSave_go_size (D : List D1) (h : ∀ x ∈ D, XInv x) (acc : ByteArray) : (D.foldl dOne acc).size ≤ acc.size + D.length * 8010000 := by
  induction D generalizing acc with
  | nil => simp
  | cons x r ih =>
    have h1 := ih (fun y hy => h y (by simp [hy])) (dOne acc x)
    have h2 := dOne_size (acc := acc) (h x (by simp))
    rw [List.foldl_cons]
    simp only [List.length_cons]
    omega
theorem dSave_size {D : List D1} (h : DInv D) : (dSave D).size ≤ 1000000000 := by
  have h1 := dSave_go_size D h.xs (vput D.length)
  have h2 := vput_size D.length
  have h3 := h.len
  unfold dSave
  omega
end Go.Proofs.YtjabhhpmofodlaaGreatDoor
