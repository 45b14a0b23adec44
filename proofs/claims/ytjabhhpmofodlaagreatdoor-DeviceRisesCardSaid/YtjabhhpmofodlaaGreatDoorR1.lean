/- What a row's data give: a script, an event. -/
import Derived.Test.YtjabhhpmofodlaaGreatDoorR0
import Derived.Test.YtjabhhpmofodlaaGreatDoorH3
import Derived.ProofKit
import Derived.OpenShut
import Derived.ShutString
import Derived.ChangeOld
import Derived.ChangeSame
import Derived.LaidMore
import Derived.Lay
import Derived.Deep.Slices
import Derived.Deep.Fields
import Derived.Lib.SmallJoins
import Derived.Stop.Joined
namespace Go.Proofs.YtjabhhpmofodlaaGreatDoor
open Go.ChangeShapes Go.WideShapes Go.ChangeAt Go.RowKit Go.Deep
open Go.ChangeMaps (open_string shut_string)
set_option linter.unusedVariables false
theorem one3 : Tryz.prog.cellsOf 3 = 1 := by kernel_rfl
theorem one4 : Tryz.prog.cellsOf 4 = 1 := by kernel_rfl
theorem one9 : Tryz.prog.cellsOf 9 = 1 := by kernel_rfl
theorem five37 : Tryz.prog.cellsOf 37 = 5 := by kernel_rfl
theorem nine39 : Tryz.prog.cellsOf 39 = 9 := by kernel_rfl
theorem of_wf64 {n : Int} (h : (Lit.int .i64 n).wf = true) : -9223372036854775808 ≤ n ∧ n ≤ 9223372036854775807 := by
  simp [Lit.wf, IntKind.min, IntKind.max, IntKind.bits, IntKind.signed] at h; omega
section
variable {H : Type} {enc : TypeId × Value → H} {w : World} {base : Nat} {spare : Nat → Bool} {held : Bool}
set_option maxRecDepth 100000 in
theorem ev_of_trod {fuel : Nat} {cs : List Value} {x : DataW H × List MemPlace} (h : DataW.trod enc Tryz.prog w base spare held fuel 37 cs = some x) :
    ∃ e : Ev, cs = [.int .i64 e.o, .int .i64 e.s, .string e.t, .string e.l, .int .i64 e.k] ∧ e.t.size ≤ 9223372036854775807 ∧ e.l.size ≤ 9223372036854775807 := by
  obtain ⟨ys, n, _, _, hlen, hyl, hf⟩ := DataW.trod_struct Tryz.underlying37 h
  have hyl5 : ys.length = 5 := hyl
  have hl5 : cs.length = 5 := hlen.trans five37
  match cs, hl5 with
  | [c0, c1, c2, c3, c4], _ =>
    have f0 : DataW.trod enc Tryz.prog w base spare held n 3 (([c0, c1, c2, c3, c4].drop 0).take (Tryz.prog.cellsOf 3)) = ys[0]? := hf 0 _ rfl
    have f1 : DataW.trod enc Tryz.prog w base spare held n 3 (([c0, c1, c2, c3, c4].drop 1).take (Tryz.prog.cellsOf 3)) = ys[1]? := hf 1 _ rfl
    have f2 : DataW.trod enc Tryz.prog w base spare held n 9 (([c0, c1, c2, c3, c4].drop 2).take (Tryz.prog.cellsOf 9)) = ys[2]? := hf 2 _ rfl
    have f3 : DataW.trod enc Tryz.prog w base spare held n 9 (([c0, c1, c2, c3, c4].drop 3).take (Tryz.prog.cellsOf 9)) = ys[3]? := hf 3 _ rfl
    have f4 : DataW.trod enc Tryz.prog w base spare held n 3 (([c0, c1, c2, c3, c4].drop 4).take (Tryz.prog.cellsOf 3)) = ys[4]? := hf 4 _ rfl
    simp only [one3, one9] at f0 f1 f2 f3 f4
    rw [List.getElem?_eq_getElem (by omega)] at f0 f1 f2 f3 f4
    simp only [List.drop, List.take] at f0 f1 f2 f3 f4
    obtain ⟨o, e0, _, _⟩ := DataW.trod_int Tryz.underlying3 f0
    obtain ⟨s, e1, _, _⟩ := DataW.trod_int Tryz.underlying3 f1
    obtain ⟨t, e2, _, ht⟩ := DataW.trod_string Tryz.underlying9 f2
    obtain ⟨l, e3, _, hl⟩ := DataW.trod_string Tryz.underlying9 f3
    obtain ⟨k, e4, _, _⟩ := DataW.trod_int Tryz.underlying3 f4
    unfold maxLen at ht hl
    simp at e0 e1 e2 e3 e4
    subst e0 e1 e2 e3 e4
    exact ⟨⟨o, s, t, l, k⟩, rfl, by simp only; omega, by simp only; omega⟩
set_option maxRecDepth 100000 in
theorem op_of_trod {fuel : Nat} {cs : List Value} {x : DataW H × List MemPlace} (h : DataW.trod enc Tryz.prog w base spare held fuel 39 cs = some x) : ∃ o : Op, cs = opCells o ∧ OpWf o := by
  obtain ⟨ys, n, _, _, hlen, hyl, hf⟩ := DataW.trod_struct Tryz.underlying39 h
  have hyl5 : ys.length = 5 := hyl
  have hl9 : cs.length = 9 := hlen.trans nine39
  match cs, hl9 with
  | [c0, c1, c2, c3, c4, c5, c6, c7, c8], _ =>
    have f0 : DataW.trod enc Tryz.prog w base spare held n 3 (([c0, c1, c2, c3, c4, c5, c6, c7, c8].drop 0).take (Tryz.prog.cellsOf 3)) = ys[0]? := hf 0 _ rfl
    have f1 : DataW.trod enc Tryz.prog w base spare held n 3 (([c0, c1, c2, c3, c4, c5, c6, c7, c8].drop 1).take (Tryz.prog.cellsOf 3)) = ys[1]? := hf 1 _ rfl
    have f2 : DataW.trod enc Tryz.prog w base spare held n 9 (([c0, c1, c2, c3, c4, c5, c6, c7, c8].drop 2).take (Tryz.prog.cellsOf 9)) = ys[2]? := hf 2 _ rfl
    have f3 : DataW.trod enc Tryz.prog w base spare held n 4 (([c0, c1, c2, c3, c4, c5, c6, c7, c8].drop 3).take (Tryz.prog.cellsOf 4)) = ys[3]? := hf 3 _ rfl
    have f4 : DataW.trod enc Tryz.prog w base spare held n 37 (([c0, c1, c2, c3, c4, c5, c6, c7, c8].drop 4).take (Tryz.prog.cellsOf 37)) = ys[4]? := hf 4 _ rfl
    simp only [one3, one4, one9, five37] at f0 f1 f2 f3 f4
    rw [List.getElem?_eq_getElem (by omega)] at f0 f1 f2 f3 f4
    simp only [List.drop, List.take] at f0 f1 f2 f3 f4
    obtain ⟨k, e0, _, _⟩ := DataW.trod_int Tryz.underlying3 f0
    obtain ⟨id, e1, _, hid⟩ := DataW.trod_int Tryz.underlying3 f1
    obtain ⟨f, e2, _, ht⟩ := DataW.trod_string Tryz.underlying9 f2
    obtain ⟨on, e3, _⟩ := DataW.trod_bool Tryz.underlying4 f3
    obtain ⟨e, e4, h1, h2⟩ := ev_of_trod f4
    unfold maxLen at ht
    simp at e0 e1 e2 e3 e4
    obtain ⟨g0, g1, g2, g3, g4⟩ := e4
    subst e0 e1 e2 e3 g0 g1 g2 g3 g4
    have hid' := of_wf64 hid
    exact ⟨⟨k, id, f, on, e⟩, rfl, hid'.1, hid'.2, by simp only; omega, by simp only; omega, by simp only; omega⟩
theorem ops_of_trod {fuel : Nat} {a : Option Addr} {len cap : Nat} {x : DataW H × List MemPlace} (h : DataW.trod enc Tryz.prog w base spare held fuel 33 [.slice a len cap] = some x) :
    ∃ l : List Op, OpsAt w w.heap.size (.slice a len cap) l ∧ l.length ≤ 9223372036854775807 ∧ ∀ o ∈ l, OpWf o := by
  rcases DataW.trod_slice Tryz.underlying33 h with ⟨h0, _⟩ | ⟨ad, len', cap', elems, rest, n, _, hcs, _, _, hl, hm, hlen, hel, _⟩
  · simp at h0
    obtain ⟨rfl, rfl, rfl⟩ := h0
    exact ⟨[], ⟨none, 0, rfl, fun j hj => absurd hj (by simp)⟩, by simp, by simp⟩
  · simp at hcs
    obtain ⟨rfl, rfl, rfl⟩ := hcs
    rw [nine39] at hel
    have hex : ∀ i : Nat, ∃ o : Op, i < len → (∀ j u, (opCells o)[j]? = some u → w.cell? ((ad.add (i * 9)).add j) = some u) ∧ OpWf o := by
      intro i
      by_cases hi : i < len
      · have hE := hel i hi
        rw [List.getElem?_eq_getElem (by omega)] at hE
        simp only [Option.bind_eq_some_iff] at hE
        obtain ⟨cs, hc, ht⟩ := hE
        obtain ⟨o, rfl, hw⟩ := op_of_trod ht
        obtain ⟨_, hcl, hat⟩ := World.cells?_some hc
        refine ⟨o, fun _ => ⟨fun j u hu => ?_, hw⟩⟩
        have hj : j < 9 := (List.getElem?_eq_some_iff.1 hu).1
        rw [hat j hj]; exact hu
      · exact ⟨⟨0, 0, ⟨#[]⟩, false, ⟨0, 0, ⟨#[]⟩, ⟨#[]⟩, 0⟩⟩, fun h => absurd h hi⟩
    obtain ⟨f, hf⟩ := Classical.axiomOfChoice hex
    have hll : ((List.range len).map f).length = len := by simp
    refine ⟨(List.range len).map f, ⟨some ad, cap, by rw [hll], fun j hj => ?_⟩, by rw [hll]; unfold maxLen at hm; omega, ?_⟩
    · have hj' : j < len := by rw [hll] at hj; exact hj
      have hc := (hf j hj').1
      obtain ⟨g, o, spot⟩ := ad
      have h0 := hc 0 _ rfl
      have hspot : spot = none := by
        have := World.cell?_spot ((hf 0 (by omega)).1 0 _ rfl)
        simpa [Addr.add] using this
      subst hspot
      have hadd : ∀ i : Nat, ((⟨g, o, none⟩ : Addr).add (j * 9)).add i = ⟨g, o + j * 9 + i, none⟩ := by
        intro i
        unfold Addr.add
        split <;> (try split) <;> simp_all
      refine ⟨g, o, rfl, ?_, fun i u hu => ?_⟩
      · have := World.block_lt_of_cell? w _ h0
        rw [hadd] at this
        exact this
      · have := hc i u (by simpa using hu)
        rw [hadd] at this
        exact this
    · intro o ho
      obtain ⟨i, hi, rfl⟩ := List.mem_map.1 ho
      exact (hf i (List.mem_range.1 hi)).2
theorem ops_of_Trod {a : Option Addr} {len cap : Nat} {d : DataW H} {p : List MemPlace} (h : DataW.Trod enc Tryz.prog w base spare held 33 (.slice a len cap) d p) :
    ∃ l : List Op, OpsAt w w.heap.size (.slice a len cap) l ∧ l.length ≤ 9223372036854775807 ∧ ∀ o ∈ l, OpWf o := by
  obtain ⟨fuel, hf⟩ := h
  exact ops_of_trod hf
set_option maxRecDepth 100000 in
theorem ev_of_Trod {v : Value} {b : Nat} {r : Reach} {d : DataW H} {p : List MemPlace} (hv : Value.okWide Tryz.prog w r b 37 v) (h : DataW.Trod enc Tryz.prog w base spare held 37 v d p) :
    ∃ e : Ev, v = evV e ∧ e.t.size ≤ 9223372036854775807 ∧ e.l.size ≤ 9223372036854775807 := by
  obtain ⟨cs, rfl, hsz⟩ := okWide_struct Tryz.underlying37 hv
  obtain ⟨fuel, hf⟩ := h
  obtain ⟨e, he, h1, h2⟩ := ev_of_trod hf
  refine ⟨e, ?_, h1, h2⟩
  unfold evV
  congr 1
  apply Array.toList_inj.1
  simpa [Value.cells] using he
end
end Go.Proofs.YtjabhhpmofodlaaGreatDoor
