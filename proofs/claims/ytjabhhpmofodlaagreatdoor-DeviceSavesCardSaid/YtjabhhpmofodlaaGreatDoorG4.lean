/- device.takes. -/
import Derived.Test.YtjabhhpmofodlaaGreatDoorG3
attribute [local go_sem] Go.undef
namespace Go.Proofs.YtjabhhpmofodlaaGreatDoor
open Go.RowKit
set_option linter.unusedVariables false
set_option linter.unusedSimpArgs false
def mfind (M : List Mk) (o : Int) : Option Int := (M.find? fun m => m.1 == o).map (·.2)
theorem mget_mmap (M : List Mk) (o : Int) : mget (mmap M) o = (mfind M o).map (.int .i64) := by
  unfold mget mmap mfind
  rw [List.find?_map, Option.map_map, Option.map_map]; rfl
def takesB (F : List ByteArray) (M : List Mk) (e : Ev) : Bool := letsB F e.t && decide ((mfind M e.o).getD 0 < e.s) && ((mfind M e.o).isSome || decide (M.length < 32))
def evCells (e : Ev) : Array Value := #[.int .i64 e.o, .int .i64 e.s, .string e.t, .string e.l, .int .i64 e.k]
theorem look_ok_run {P : Program} {w : World} {b : Nat} {m : IMap} (h3 : P.underlying 3 = some (.int .i64)) (hown : MapAt P w b m) {t e : TypeId} (ht : P.underlying t = some (.map 3 e)) {z : Value} (hz : (zeroValue e).run P w = .ok z w) {k : Int} (hk : (Lit.int .i64 k).wf = true) :
    (Instr.lookup t (.map (some b)) (.int .i64 k) true).run P w = .ok (.tuple #[(mget m k).getD z, .bool (mget m k).isSome]) w := by
  obtain ⟨v, ps, hrun, hv⟩ := World.ownsMap.look_ok hown (Maps.int_keyed h3) ht hz (zd := .held z) (zp := []) rfl (Maps.keyOf_int_mk h3 hk)
  rw [dat_at] at hv
  simp only [Rv, Option.some.injEq, Prod.mk.injEq, DataW.held.injEq] at hv
  rw [hrun, hv.1, dat_has]
theorem look_run {P : Program} {w : World} {b : Nat} {m : IMap} (h3 : P.underlying 3 = some (.int .i64)) (hown : MapAt P w b m) {t e : TypeId} (ht : P.underlying t = some (.map 3 e)) {z : Value} (hz : (zeroValue e).run P w = .ok z w) {k : Int} (hk : (Lit.int .i64 k).wf = true) :
    (Instr.lookup t (.map (some b)) (.int .i64 k) false).run P w = .ok ((mget m k).getD z) w := by
  obtain ⟨v, ps, hrun, hv⟩ := World.ownsMap.lookup hown (Maps.int_keyed h3) ht hz (zd := .held z) (zp := []) rfl (Maps.keyOf_int_mk h3 hk)
  rw [dat_at] at hv
  simp only [Rv, Option.some.injEq, Prod.mk.injEq, DataW.held.injEq] at hv
  rw [hrun, hv.1]
set_option maxRecDepth 100000 in
set_option maxHeartbeats 4000000 in
theorem takes_any (x : G) (e : Ev) (w : World) (h : OneAt w x) (hX : XInv (x.id, x.F, x.M)) (ht : e.t.size ≤ 1000000000) (ho : 0 ≤ e.o ∧ e.o ≤ maxNum) :
    Calls Tryz.prog 89 #[.pointer (some ⟨x.bo, 0, none⟩), evV e] w fun r w' => r = .returned (.bool (takesB x.F x.M e)) ∧ Below w.heap.size w w' := by
  obtain ⟨id, bo, bk, F, M⟩ := x
  obtain ⟨o, s, t, l, k⟩ := e
  obtain ⟨vf, hob, hrf, hmf⟩ := h
  simp only [maxNum] at hob hrf hmf hX ht ho ⊢
  have hFl : F.length ≤ 8 := hX.fl
  have hFs : ∀ f ∈ F, f.size ≤ 1000000 := hX.fs
  obtain ⟨W, hW⟩ : ∃ W, w.alloc (.cells #[.int .i64 o, .int .i64 s, .string t, .string l, .int .i64 k] 37) = W := ⟨_, rfl⟩
  have hWb : Below w.heap.size w W := by rw [← hW]; exact below_al (Below.refl _ _) _
  have hblk := (Array.getElem?_eq_some_iff.1 hob).1
  have hobW := (hWb.block bo hblk).trans hob
  have heW : W.heap[w.heap.size]? = some (.cells #[.int .i64 o, .int .i64 s, .string t, .string l, .int .i64 k] 37) := by rw [← hW]; exact World.alloc_heap_new w _
  have a0 : W.cell? ⟨bo, 0, none⟩ = some vf := by rw [cell_arr hobW]; rfl
  have a1 : W.cell? ⟨bo, 1, none⟩ = some (.map (some bk)) := by rw [cell_arr hobW]; rfl
  have e0 : W.cell? ⟨w.heap.size, 0, none⟩ = some (.int .i64 o) := by rw [cell_arr heW]; rfl
  have e1 : W.cell? ⟨w.heap.size, 1, none⟩ = some (.int .i64 s) := by rw [cell_arr heW]; rfl
  have e2 : W.cell? ⟨w.heap.size, 2, none⟩ = some (.string t) := by rw [cell_arr heW]; rfl
  have hmW := hmf.below hWb hmf.lt
  have hlk := look_ok_run h3u hmW (t := 122) Tryz.underlying122 (zero3 W) (wf64 (n := o) (by omega))
  rw [mget_mmap] at hlk
  have hml : (mmap M).length = M.length := by simp [mmap]
  have hlen := hmW.len (t := 122) Tryz.underlying122 3
  rw [hml] at hlen
  unfold evV takesB
  simp only
  have hlk2 : (Instr.lookup 122 (.map (some bk)) (.int .i64 o) true).run Tryz.prog W = .ok (.tuple #[.int .i64 ((mfind M o).getD 0), .bool (mfind M o).isSome]) W := by
    rw [hlk]; cases mfind M o <;> rfl
  clear hlk
  have HMK : Hid (Value.tuple #[(mget (mmap M) o).getD (.int .i64 0), .bool (mget (mmap M) o).isSome] = .tuple #[.int .i64 ((mfind M o).getD 0), .bool (mfind M o).isSome]) := Lib.hid (by rw [mget_mmap]; cases mfind M o <;> rfl)
  generalize (mfind M o).getD 0 = mv at *
  generalize (mfind M o).isSome = mi at *
  have hrW := Lib.hid ((hrf.below hWb).mono hWb.size)
  have HMW := Lib.hid hmW
  have hbW : w.heap.size < W.heap.size := (Array.getElem?_eq_some_iff.1 heW).1
  go_enter Tryz.func89, Tryz.ntmps89
  go_wp2_with fail
  clear hW hmW hob hrf hmf hX hobW heW
  have hlk3 : ∀ n, (Instr.lookup 122 (.map (some bk)) (.int .i64 o) true).run Tryz.prog (W.drewN n) = .ok (.tuple #[.int .i64 mv, .bool mi]) (W.drewN n) := by
    intro n
    have := look_ok_run h3u (show MapAt Tryz.prog (W.drewN n) bk (mmap M) from HMW.out) (t := 122) Tryz.underlying122 (zero3 _) (wf64 (n := o) (by omega))
    rw [this, HMK.out]
  go_quiet (fail)
  go_wp2_with fail
  have b0 : (W.drewN nq).cell? ⟨bo, 0, none⟩ = some vf := a0
  have b1 : (W.drewN nq).cell? ⟨bo, 1, none⟩ = some (.map (some bk)) := a1
  have b2 : (W.drewN nq).cell? ⟨w.heap.size, 1, none⟩ = some (.int .i64 s) := e1
  have b3 : (W.drewN nq).cell? ⟨w.heap.size, 2, none⟩ = some (.string t) := e2
  have hr2 : Hid (RAt (W.drewN nq) (W.drewN nq).heap.size vf (strs F)) := hrW
  have HM2 : Hid (MapAt Tryz.prog (W.drewN nq) bk (mmap M)) := HMW
  have hWb2 : Below w.heap.size w (W.drewN nq) := ⟨hWb.os, hWb.tape, hWb.output, hWb.size, hWb.block⟩
  have hbW2 : w.heap.size < (W.drewN nq).heap.size := hbW
  clear a0 a1 e0 e1 e2 hlen hlk2 hlk3 HMW hrW hWb hbW
  generalize W.drewN nq = W2 at *
  have HL := Lib.hid (lets_any t vf F W2.drew ht (show RAt W2.drew W2.drew.heap.size vf (strs F) from hr2.out) (by omega) (fun x hx => Nat.le_trans (hFs x hx) (by omega)))
  have hkeep : Hid (∀ w3, Below W2.drew.heap.size W2.drew w3 → w3.cell? ⟨bo, 0, none⟩ = some vf ∧ w3.cell? ⟨bo, 1, none⟩ = some (.map (some bk)) ∧ w3.cell? ⟨w.heap.size, 1, none⟩ = some (.int .i64 s) ∧ w3.cell? ⟨w.heap.size, 2, none⟩ = some (.string t) ∧ (Builtin.len_ #[122] 3 #[.map (some bk)]).run Tryz.prog w3 = .ok (.int .i64 M.length) w3) := Lib.hid (by
    intro w3 hb
    refine ⟨below_cell (w := W2.drew) hb b0, below_cell (w := W2.drew) hb b1, below_cell (w := W2.drew) hb b2, below_cell (w := W2.drew) hb b3, ?_⟩
    have := ((show MapAt Tryz.prog W2.drew bk (mmap M) from HM2.out).below hb HM2.out.lt).len (t := 122) Tryz.underlying122 3
    rw [hml] at this; exact this)
  clear hml
  have hk0 := hkeep.out W2.drew (Below.refl _ _)
  have hbd : Below W2.heap.size W2 W2.drew := ⟨rfl, rfl, rfl, Nat.le_refl _, fun _ _ => rfl⟩
  have hW2d : ∀ {w3}, Below W2.drew.heap.size W2.drew w3 → Below w.heap.size w w3 := fun hb => hWb2.drew.trans (hb.mono hWb2.size)
  clear HMK
  cases hlets : letsB F t with
  | false =>
    first | (go_region_held3 (fun w' => w'.cell? ⟨bo, 0, none⟩ = some vf ∧ w'.cell? ⟨bo, 1, none⟩ = some (.map (some bk)) ∧ w'.cell? ⟨w.heap.size, 1, none⟩ = some (.int .i64 s) ∧ w'.cell? ⟨w.heap.size, 2, none⟩ = some (.string t) ∧ (Builtin.len_ #[122] 3 #[.map (some bk)]).run Tryz.prog w' = .ok (.int .i64 M.length) w') (first | exact hk0 | exact hkeep.out _ hb3) (first | (go_at_call 152; refine HL.out.mono ?_; rw [hlets]; rintro e w3 ⟨rfl, hb3⟩))) | skip
    all_goals go_wp2
    all_goals (go_ret; refine ⟨ret_b (by simp_all <;> first | omega | (intro h; omega)), hW2d hb3⟩)
  | true =>
    by_cases hlt : mv < s
    · have hd : decide (mv < s) = true := by simpa using hlt
      cases mi with
      | true =>
        first | (go_region_held3 (fun w' => w'.cell? ⟨bo, 0, none⟩ = some vf ∧ w'.cell? ⟨bo, 1, none⟩ = some (.map (some bk)) ∧ w'.cell? ⟨w.heap.size, 1, none⟩ = some (.int .i64 s) ∧ w'.cell? ⟨w.heap.size, 2, none⟩ = some (.string t) ∧ (Builtin.len_ #[122] 3 #[.map (some bk)]).run Tryz.prog w' = .ok (.int .i64 M.length) w') (first | exact hk0 | exact hkeep.out _ hb3) (first | (go_at_call 152; refine HL.out.mono ?_; rw [hlets]; rintro e w3 ⟨rfl, hb3⟩))) | skip
        all_goals go_wp2
        all_goals (go_ret; refine ⟨ret_b (by simp_all <;> first | omega | (intro h; omega)), hW2d hb3⟩)
      | false =>
        first | (go_region_held3 (fun w' => w'.cell? ⟨bo, 0, none⟩ = some vf ∧ w'.cell? ⟨bo, 1, none⟩ = some (.map (some bk)) ∧ w'.cell? ⟨w.heap.size, 1, none⟩ = some (.int .i64 s) ∧ w'.cell? ⟨w.heap.size, 2, none⟩ = some (.string t) ∧ (Builtin.len_ #[122] 3 #[.map (some bk)]).run Tryz.prog w' = .ok (.int .i64 M.length) w') (first | exact hk0 | exact hkeep.out _ hb3) (first | (go_at_call 152; refine HL.out.mono ?_; rw [hlets]; rintro e w3 ⟨rfl, hb3⟩))) | skip
        all_goals go_wp2
        all_goals (go_ret; refine ⟨ret_b (by simp_all <;> first | omega | (intro h; omega)), hW2d hb3⟩)
    · have hd : decide (mv < s) = false := by simpa using hlt
      first | (go_region_held3 (fun w' => w'.cell? ⟨bo, 0, none⟩ = some vf ∧ w'.cell? ⟨bo, 1, none⟩ = some (.map (some bk)) ∧ w'.cell? ⟨w.heap.size, 1, none⟩ = some (.int .i64 s) ∧ w'.cell? ⟨w.heap.size, 2, none⟩ = some (.string t) ∧ (Builtin.len_ #[122] 3 #[.map (some bk)]).run Tryz.prog w' = .ok (.int .i64 M.length) w') (first | exact hk0 | exact hkeep.out _ hb3) (first | (go_at_call 152; refine HL.out.mono ?_; rw [hlets]; rintro e w3 ⟨rfl, hb3⟩))) | skip
      all_goals go_wp2
      all_goals (go_ret; refine ⟨ret_b (by simp_all <;> first | omega | (intro h; omega)), hW2d hb3⟩)
end Go.Proofs.YtjabhhpmofodlaaGreatDoor
