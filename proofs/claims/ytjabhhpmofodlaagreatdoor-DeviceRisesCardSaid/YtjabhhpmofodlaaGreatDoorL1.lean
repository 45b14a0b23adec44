/- rivuletlaw19.Cut: a script, cut. -/
import Derived.Test.YtjabhhpmofodlaaGreatDoorH1
namespace Go.Proofs.YtjabhhpmofodlaaGreatDoor
open Go.RowKit
set_option linter.unusedVariables false
set_option linter.unusedSimpArgs false
structure Op where
  k : Int
  id : Int
  f : ByteArray
  on : Bool
  e : Ev
def opCells (o : Op) : List Value := [.int .i64 o.k, .int .i64 o.id, .string o.f, .bool o.on, .int .i64 o.e.o, .int .i64 o.e.s, .string o.e.t, .string o.e.l, .int .i64 o.e.k]
def opFlat (l : List Op) : List Value := l.flatMap opCells
/-- A slice of calls, written out; it may begin within its block. -/
def OpsAt (w : World) (B : Nat) (v : Value) (l : List Op) : Prop :=
  ∃ p cap, v = .slice p l.length cap ∧ ∀ j (hj : j < l.length), ∃ g o, p = some ⟨g, o, none⟩ ∧ g < B ∧ ∀ i u, (opCells l[j])[i]? = some u → w.cell? ⟨g, o + j * 9 + i, none⟩ = some u
def cut120 (s : ByteArray) : ByteArray := s.extract 0 (min s.size 120)
def opCut (o : Op) : Op := { o with f := cut120 o.f, e := { o.e with t := cut120 o.e.t, l := cut120 o.e.l } }
def opsCut (l : List Op) : List Op := (l.take 80).map opCut
theorem cut120_size (s : ByteArray) : (cut120 s).size ≤ 120 := by unfold cut120; rw [ByteArray.size_extract]; omega
theorem info39 : (Tryz.prog.info? 39).map (fun i => (i.zero, i.size, i.bytes)) = some (some (.agg #[.int .i64 0, .int .i64 0, .string ⟨#[]⟩, .bool false, .int .i64 0, .int .i64 0, .string ⟨#[]⟩, .string ⟨#[]⟩, .int .i64 0]), 9, 96) := by kernel_rfl
section
variable {P : Program} {ops : Array Oper} {rest : List Oper} {o : Oper} {a : Act} {Q : Exit → Act → World → Prop}
/-- append(v, y), y of some cells (its block has been laid for it): behind 'at_builtin'. -/
theorem appN {w0 W : World} {base : Nat} (hgd : o.guard = none) (s x : Operand) (t e : TypeId) (z : Value) (size bytes : Nat) (hsz : 0 < size)
    (ho : o.op = .call { callee := .builtin .append, args := #[s, x], argTypes := #[t, t] })
    (ht : P.underlying t = some (.slice e)) (hinfo : (P.info? e).map (fun i => (i.zero, i.size, i.bytes)) = some (some z, size, bytes)) (hz : z.cells.size = size) (hb0 : 0 < bytes)
    (v : Value) (n : Nat) (xs ys : List Value) (hs : a.eval s = v) (hx : a.eval x = .slice (some ⟨W.heap.size, 0, none⟩) 1 1) (hys : ys.length = size) (h1 : ∀ y ∈ ys, y.oneCell' = true)
    (HO : W.ownsRow base e size v n xs) (HB : Below base w0 W) (hbase : base ≤ W.heap.size) (hl : (n + 1) * bytes ≤ 140737488355328)
    (h : ∀ v1 w1, w1.ownsRow base e size v1 (n + 1) (xs ++ ys) → Below base w0 w1 → base ≤ w1.heap.size → W.grownBy w1 v.ownBlock → (v1.ownBlock = v.ownBlock ∨ ∃ b, v1.ownBlock = some b ∧ W.heap.size ≤ b) → wpList P ops Q rest (a.put o.dst v1) w1) :
    wpList P ops Q (o :: rest) a (W.alloc (.cells ys.toArray e)) := by
  obtain ⟨i0, hi, hzz⟩ := Option.map_eq_some_iff.1 hinfo
  simp only [Prod.mk.injEq] at hzz
  obtain ⟨hz0, hz1, hz2⟩ := hzz
  have hlen : n + 1 ≤ 140737488355328 := Nat.le_trans (Nat.le_mul_of_pos_right _ hb0) hl
  refine wpList_append_own_at (W.alloc (.cells ys.toArray e)) hgd s x t ho base e i0 z size bytes ht hi hz0 hz1 hz2 hz hsz v n xs hs (HO.alloc _) ⟨W.heap.size, 0, none⟩ 1 1 ys hx (by simp [hys])
    (World.news_of_block (cs := ys.toArray) (t := e) (fr := (0, 0)) (heap_alloc_new W _)) h1 (by simp only [maxLen]; omega) hl (by simp; omega) ?_
  intro v1 w1 hown hg _ hat
  refine h v1 w1 hown ((HB.alloc hbase _).grown hg (by simp; omega) (own_base HO)) ?_ (World.grownBy.trans (World.grownBy_alloc W _ _) hg) ?_
  · have := hg.size; simp at this; omega
  · rcases hat with hat | hat
    · exact .inl hat
    · exact .inr ⟨_, hat, by simp⟩
end
theorem opFlat_snoc (l : List Op) (o : Op) : opFlat l ++ opCells o = opFlat (l ++ [o]) := by simp [opFlat]
set_option maxRecDepth 100000 in
set_option maxHeartbeats 4000000 in
theorem cut_ops_any (v : Value) (l : List Op) (w : World) (hv : OpsAt w w.heap.size v l) (hl : l.length ≤ 9223372036854775807) (hs : ∀ o ∈ l, o.f.size ≤ 9223372036854775807 ∧ o.e.t.size ≤ 9223372036854775807 ∧ o.e.l.size ≤ 9223372036854775807) :
    Calls Tryz.prog 19 #[v] w fun e w' => ∃ v', e = .returned v' ∧ w'.ownsRow w.heap.size 39 9 v' (opsCut l).length (opFlat (opsCut l)) ∧ Below w.heap.size w w' := by
  obtain ⟨p, cap, rfl, hc⟩ := hv
  have HC := Lib.hid hc
  have HSZ := Lib.hid hs
  clear hc hs
  go_enter Tryz.func19, Tryz.ntmps19
  go_wp2
  go_loopw [3, 4] (fun v c wr => ∃ k : Nat, k ≤ l.length ∧ k ≤ 80 ∧ c = .int .i64 k ∧ wr.ownsRow w.heap.size 39 9 v k (opFlat ((l.take k).map opCut)) ∧ Below w.heap.size w wr) (fun _ c _ => 80 - (intOf c).toNat)
  case atStart => exact ⟨0, Nat.zero_le _, Nat.zero_le _, rfl, World.ownsRow_lit (size := 9) w #[] 0 (Nat.le_refl _) (by simp) (by simp), below_al (Below.refl _ _) _⟩
  case round =>
    obtain ⟨k, hk, hk80, rfl, hrow, hbr⟩ := hrel
    by_cases hlt : k < l.length ∧ k < 80
    · obtain ⟨g, off, hp, hg, hcl⟩ := HC.out k hlt.1
      subst hp
      have hsz := HSZ.out l[k] (by simp)
      have hcw : ∀ i u, (opCells l[k])[i]? = some u → wr.cell? ⟨g, off + k * 9 + i, none⟩ = some u := fun i u h => (hbr.cell (p := ⟨g, off + k * 9 + i, none⟩) hg).trans (hcl i u h)
      have htk : (l.take (k + 1)).map opCut = (l.take k).map opCut ++ [opCut l[k]] := by rw [List.take_add_one, List.map_append, List.getElem?_eq_getElem hlt.1]; rfl
      have HTK := Lib.hid htk
      clear htk hcl
      generalize l[k] = x at *
      obtain ⟨ok, oid, of, oon, ⟨eo, es, et, el, ek⟩⟩ := x
      have c0 : wr.cell? ⟨g, off + k * 9, none⟩ = some (.int .i64 ok) := hcw 0 _ rfl
      have c1 := hcw 1 _ rfl
      have c2 := hcw 2 _ rfl
      have c3 := hcw 3 _ rfl
      have c4 := hcw 4 _ rfl
      have c5 := hcw 5 _ rfl
      have c6 := hcw 6 _ rfl
      have c7 := hcw 7 _ rfl
      have c8 := hcw 8 _ rfl
      simp only at hsz
      have hk1 := hlt.1
      have hk2 := hlt.2
      have hrow' := Lib.hid hrow
      clear hcw hrow
      have hmin : ∀ s : ByteArray, s.extract 0 (min (s.size : Int) 120).toNat = cut120 s := by
        intro s; unfold cut120; rw [show (min (s.size : Int) 120).toNat = min s.size 120 by omega]
      have hszw : w.heap.size ≤ wr.heap.size := hbr.size
      have HMIN := Lib.hid hmin
      clear hmin
      go_wp2_with (at_builtin; go_must (refine appN (w0 := wr.alloc (.cells #[.int .i64 ok, .int .i64 oid, .string (of.extract 0 (min (of.size : Int) 120).toNat), .bool oon, .int .i64 eo, .int .i64 es, .string (et.extract 0 (min (et.size : Int) 120).toNat), .string (el.extract 0 (min (el.size : Int) 120).toNat), .int .i64 ek] 39)) (base := w.heap.size) rfl _ _ 33 39 _ 9 96 (by omega) rfl Tryz.underlying33 info39 rfl (by decide) u3 k (opFlat ((l.take k).map opCut)) [.int .i64 ok, .int .i64 oid, .string (of.extract 0 (min (of.size : Int) 120).toNat), .bool oon, .int .i64 eo, .int .i64 es, .string (et.extract 0 (min (et.size : Int) 120).toNat), .string (el.extract 0 (min (el.size : Int) 120).toNat), .int .i64 ek] rfl (by rw [World.size_alloc]; rfl) rfl (by simp [Value.oneCell']) (hrow'.out.alloc _) (Below.refl _ _) (by simp; omega) (by omega) ?_); intro v5 w5 hrow5 hb5 hsz5 _ _)
      refine ⟨⟨k + 1, by omega, by omega, by simp, ?_, (hbr.alloc hszw _).trans hb5⟩, by simp [intOf]; omega⟩
      rw [HTK.out, ← opFlat_snoc]
      rw [HMIN.out, HMIN.out, HMIN.out] at hrow5
      exact hrow5
    · have hkk : k = min l.length 80 := by omega
      have htt : (l.take k).map opCut = opsCut l := by
        unfold opsCut
        rw [hkk]
        by_cases h80 : l.length ≤ 80
        · rw [Nat.min_eq_left h80, List.take_length, List.take_of_length_le h80]
        · rw [Nat.min_eq_right (by omega)]
      have hol : (opsCut l).length = k := by rw [← htt]; simp; omega
      have HTT := Lib.hid htt
      have HOL := Lib.hid hol
      have HROW := Lib.hid hrow
      clear htt hol hkk hrow
      by_cases hk1 : k < l.length
      · have hk2 : k = 80 := by omega
        subst hk2
        go_wp2
        go_ret
        rw [HOL.out, ← HTT.out]
        exact ⟨_, rfl, HROW.out, hbr⟩
      · have hk2 : k = l.length := by omega
        subst hk2
        go_wp2
        go_ret
        rw [HOL.out, ← HTT.out]
        exact ⟨_, rfl, HROW.out, hbr⟩
end Go.Proofs.YtjabhhpmofodlaaGreatDoor
