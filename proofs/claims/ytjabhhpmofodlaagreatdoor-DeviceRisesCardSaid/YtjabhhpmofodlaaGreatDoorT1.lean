/- topic.Levels: a text's levels, by a range over strings.SplitSeq. -/
import Derived.Test.YtjabhhpmofodlaaGreatDoorV4
import Derived.Test.YtjabhhpmofodlaaGreatDoorSh
import Derived.RangeFuncBox
import Derived.RangeFuncLeaves
import Derived.Shelf.Abstract
import Derived.OwnWalkIn
import Derived.TacticsInMore
import Derived.LoopNIn
import Derived.LoopIn
import Derived.Lib.Bytealg
import Derived.Lib.IndexBytes
namespace Go.Proofs.YtjabhhpmofodlaaGreatDoor
open Go.RowKit
set_option linter.unusedVariables false
set_option linter.unusedSimpArgs false
/-! ### plain -/
def lv : List UInt8 → List (List UInt8)
  | [] => [[]]
  | c :: r => if c = 47 then [] :: lv r else (c :: (lv r).headD []) :: (lv r).tail
def str (l : List UInt8) : ByteArray := ⟨l.toArray⟩
theorem str_list (s : ByteArray) : str s.data.toList = s := rfl
def levels (s : ByteArray) : List ByteArray := (lv s.data.toList).map str
theorem lv_ne (l : List UInt8) : lv l ≠ [] := by cases l with | nil => simp [lv] | cons c r => unfold lv; split <;> simp
theorem lv_none (l : List UInt8) (h : Lib.indexByte l 47 = -1) : lv l = [l] := by
  induction l with
  | nil => rfl
  | cons c r ih =>
    unfold Lib.indexByte at h
    have hge := Lib.indexByte_ge r 47
    by_cases hc : c = 47
    · simp [hc] at h
    · have hc' : (c == 47) = false := by simpa using hc
      simp only [hc', Bool.false_eq_true, if_false] at h
      have hr : Lib.indexByte r 47 = -1 := by
        by_cases e : Lib.indexByte r 47 = -1
        · exact e
        · rw [if_neg (by simpa using e)] at h; omega
      simp [lv, hc, ih hr]
theorem lv_some (l : List UInt8) : ∀ m : Nat, Lib.indexByte l 47 = m → m < l.length ∧ lv l = l.take m :: lv (l.drop (m + 1)) := by
  induction l with
  | nil => intro m h; simp [Lib.indexByte] at h
  | cons c r ih =>
    intro m h
    unfold Lib.indexByte at h
    have hge := Lib.indexByte_ge r 47
    by_cases hc : c = 47
    · simp [hc] at h
      obtain rfl : m = 0 := by omega
      simp [lv, hc]
    · have hc' : (c == 47) = false := by simpa using hc
      simp only [hc', Bool.false_eq_true, if_false] at h
      by_cases e : Lib.indexByte r 47 = -1
      · rw [if_pos (by simpa using e)] at h; omega
      · rw [if_neg (by simpa using e)] at h
        obtain ⟨k, hk⟩ : ∃ k : Nat, Lib.indexByte r 47 = k := ⟨(Lib.indexByte r 47).toNat, by omega⟩
        obtain ⟨h1, h2⟩ := ih k hk
        obtain rfl : m = k + 1 := by omega
        exact ⟨by simp; omega, by simp [lv, hc, h2]⟩
theorem levels_none (s : ByteArray) (h : Lib.indexByte s.data.toList 47 = -1) : levels s = [s] := by unfold levels; rw [lv_none _ h]; rfl
theorem levels_some (s : ByteArray) (m : Nat) (h : Lib.indexByte s.data.toList 47 = m) : m < s.size ∧ levels s = s.extract 0 m :: levels (s.extract (m + 1) s.size) := by
  obtain ⟨h1, h2⟩ := lv_some _ m h
  refine ⟨by simpa using h1, ?_⟩
  unfold levels
  rw [h2]
  have e1 : (s.extract 0 m).data.toList = s.data.toList.take m := by rw [Lib.extract_data]; simp
  have e2 : (s.extract (m + 1) s.size).data.toList = s.data.toList.drop (m + 1) := Lib.extract_to_end s (m + 1)
  rw [List.map_cons, ← e1, ← e2]; rfl

/-! ### the iterator's closure -/
attribute [local go_sem] Oper.semAt_some
/-- How much is left in the box: the loop's measure. -/
def curLen (W : World) (B : Nat) : Nat := match W.cell? ⟨B, 0, none⟩ with | some (.string c) => c.size | _ => 0
theorem curLen_of {W : World} {B : Nat} {c : ByteArray} (h : Boxed W B 9 (.string c)) : curLen W B = c.size := by unfold curLen; rw [h.cell]
/-- The iterator's three boxes: the sign, what is left, how much of a sign stays (0). -/
def Boxes3 (W : World) (B : Nat) (cur : ByteArray) : Prop := Boxed W B 9 (.string cur) ∧ Boxed W (B + 1) 9 (.string ⟨#[47]⟩) ∧ Boxed W (B + 2) 3 (.int .i64 0)
set_option maxRecDepth 100000 in
set_option maxHeartbeats 2000000 in
theorem split1_in (n : Nat) (hn : 3 ≤ n) (l B : Nat) (s : ByteArray) (J : List ByteArray → World → Prop) (hs : s.size ≤ 9223372036854775807)
    (hJ : ∀ pre W v, J pre W → J pre (W.setCell ⟨B, 0, none⟩ v))
    (hY : ∀ pre x W cur, J pre W → Boxes3 W B cur → pre.length < (levels s).length → YieldAt Fence.wide (n - 1) Tryz.prog l #[.string x] W fun e W' => e = .returned (.bool true) ∧ J (pre ++ [x]) W' ∧ Boxes3 W' B cur)
    (W : World) (hB : Boxes3 W B s) (h0 : J [] W) :
    CallsIn Fence.wide n Tryz.prog 222 #[.func (.yield l) #[] #[], .pointer (some ⟨B + 1, 0, none⟩), .pointer (some ⟨B, 0, none⟩), .pointer (some ⟨B + 2, 0, none⟩)] W fun e W' => (∃ v, e = .returned v) ∧ J (levels s) W' := by
  refine callsIn_of_wp Tryz.func222 rfl trivial ?_ rfl
  simp only [Tryz.ntmps222, List.size_toArray, List.length_cons, List.length_nil, Nat.reduceAdd, Nat.reduceSub, Array.replicate_succ, Array.replicate_zero, List.push_toArray, List.append_toArray, List.nil_append, List.cons_append]
  have c1 := hB.2.1.cell
  gi_wp2
  clear c1
  gi_loopw [7] (fun _ wr => ∃ (pre : List ByteArray) (cur : ByteArray), levels s = pre ++ levels cur ∧ cur.size ≤ s.size ∧ J pre wr ∧ Boxes3 wr B cur) (fun _ wr => curLen wr B)
  case atStart => exact ⟨[], s, rfl, Nat.le_refl _, h0, hB⟩
  case round =>
    obtain ⟨pre, cur, hlev, hle, hj, hb⟩ := hrel
    have HL := Lib.hid hlev
    clear hlev
    have c0 := hb.1.cell
    have c1 := hb.2.1.cell
    have c2 := hb.2.2.cell
    have hge := Lib.indexByte_ge cur.data.toList 47
    by_cases hm : Lib.indexByte cur.data.toList 47 = -1
    · have hm' := Lib.hid hm
      have hlt : Lib.indexByte cur.data.toList 47 < 0 := by omega
      clear hm
      have h1n : 1 ≤ n := by omega
      obtain ⟨fn, tmps, assign, body, hy, hR⟩ := hY pre cur wr cur hj hb (by rw [HL.out, levels_none cur hm'.out]; simp)
      gi_wp2_with (refine ⟨trivial, ?_⟩; gi_at_call 224; refine (callsIn_wide.2 (idx1 cur wr)).mono ?_; rintro e w' ⟨rfl, hw'⟩; obtain rfl := hw'.symm; clear hw')
      refine hR.mono ?_
      rintro e W3 ⟨rfl, hJ3, hB3⟩
      gi_wp2
      go_end0
      exact ⟨⟨_, rfl⟩, by rw [HL.out, levels_none cur hm'.out]; exact hJ3⟩
    · obtain ⟨m, hmm⟩ : ∃ m : Nat, Lib.indexByte cur.data.toList 47 = m := ⟨(Lib.indexByte cur.data.toList 47).toNat, by omega⟩
      obtain ⟨hm1, hl1⟩ := levels_some cur m hmm
      have hidx : ∀ w, Calls Tryz.prog 224 #[.string cur, .string ⟨#[47]⟩] w fun e w' => e = .returned (.int .i64 (m : Int)) ∧ w' = w := fun w => by have := idx1 cur w; rw [hmm] at this; exact this
      have HI := Lib.hid hidx
      have HM := Lib.hid hl1
      have h1n : 1 ≤ n := by omega
      clear hm hmm hl1 hidx hge
      obtain ⟨fn, tmps, assign, body, hy, hR⟩ := hY pre (cur.extract 0 m) wr cur hj hb (by rw [HL.out, HM.out]; simp)
      gi_wp2_with (refine ⟨trivial, ?_⟩; gi_at_call 224; refine (callsIn_wide.2 (HI.out wr)).mono ?_; rintro e w' ⟨rfl, hw'⟩; obtain rfl := hw'.symm; clear hw')
      refine hR.mono ?_
      rintro e W3 ⟨rfl, hJ3, hB3⟩
      have d0 := hB3.1.cell
      have d1 := hB3.2.1.cell
      have f0 := hB3.1.frozen
      gi_wp2
      have hb' := hB3.1.set (.string (cur.extract (m + 1) cur.size))
      have hsz : (cur.extract (m + 1) cur.size).size = cur.size - (m + 1) := by rw [ByteArray.size_extract]; omega
      refine ⟨⟨pre ++ [cur.extract 0 m], cur.extract (m + 1) cur.size, by rw [HL.out, HM.out]; simp, by omega, hJ _ _ _ hJ3, hb', ?_, ?_⟩, ?_⟩
      · exact hB3.2.1.kept (grownBy_setCell' W3 B _) (by simp)
      · exact hB3.2.2.kept (grownBy_setCell' W3 B _) (by simp)
      · rw [curLen_of hb', curLen_of hb.1, hsz]; omega
/-! ### the callers -/
theorem Boxes3.putObj {W : World} {B l : Nat} {c : ByteArray} (h : Boxes3 W B c) (hl : B + 2 < l) (o : Obj) : Boxes3 (W.putObj l o) B c :=
  ⟨h.1.kept (grownBy_putObj' W l o) (by simp; omega), h.2.1.kept (grownBy_putObj' W l o) (by simp; omega), h.2.2.kept (grownBy_putObj' W l o) (by simp; omega)⟩
theorem Boxes3.grown {W W' : World} {B : Nat} {c : ByteArray} {row : Option Nat} (h : Boxes3 W B c) (hg : W.grownBy W' row) (hr : ∀ r, row = some r → B + 2 < r ∨ r < B) : Boxes3 W' B c :=
  ⟨h.1.kept hg (fun e => by have := hr _ e.symm; omega), h.2.1.kept hg (fun e => by have := hr _ e.symm; omega), h.2.2.kept hg (fun e => by have := hr _ e.symm; omega)⟩
set_option maxHeartbeats 400000 in
theorem splitseq_any (s sep : ByteArray) (w : World) :
    Calls Tryz.prog 147 #[.string s, .string sep] w fun e w' => e = .returned (.func (.func 222) #[] #[.pointer (some ⟨w.heap.size + 1, 0, none⟩), .pointer (some ⟨w.heap.size, 0, none⟩), .pointer (some ⟨w.heap.size + 2, 0, none⟩)]) ∧
      w' = ((w.alloc (.cells #[.string s] 9)).alloc (.cells #[.string sep] 9)).alloc (.cells #[.int .i64 0] 3) := by
  have hmf : ∀ (fn : Fn) (first cap : Array Value) (w : World), (Instr.makeFunc fn first cap).run Tryz.prog w = .ok (.func fn first cap) w := fun _ _ _ _ => rfl
  go_enter Tryz.func147, Tryz.ntmps147
  go_wp2
  go_ret
  exact ⟨rfl, rfl⟩
theorem info9 : (Tryz.prog.info? 9).map (fun i => (i.zero, i.size, i.bytes)) = some (some (.string ⟨#[]⟩), 1, 16) := by kernel_rfl
def strs (xs : List ByteArray) : List Value := xs.map .string
theorem strs_length (xs : List ByteArray) : (strs xs).length = xs.length := by simp [strs]
theorem strs_snoc (xs : List ByteArray) (x : ByteArray) : strs xs ++ [.string x] = strs (xs ++ [x]) := by simp [strs]
/-- A row of strings of one's own. -/
def OwnS (w : World) (base : Nat) (v : Value) (xs : List ByteArray) : Prop := w.ownsRow base 9 1 v (strs xs).length (strs xs)
def postB (B0 B : Nat) (cur : ByteArray) (I : List ByteArray → World → Prop) (xs : List ByteArray) (W : World) : Exit → Act → World → Prop
  | .normal, _, W' => KeepsFrom B0 W W' ∧ I xs W' ∧ Boxes3 W' B cur
  | _, _, _ => False
set_option maxHeartbeats 1000000 in
/-- A range over the iterator of strings.SplitSeq, whose state lies in a box at B. -/
theorem wpIn_rangeFunc_B {P : Program} {n : Nat} {g : Operand} {ps : Array Tmp} {assign body : Code} {Q : Exit → Act → World → Prop} {a : Act} {w : World}
    (h1 : 1 ≤ n) {gf : Nat} {lb : Array Value} (hg : a.eval g = .func (.func gf) #[] lb) (eg : ∀ args w, (callFunc gf args).run P w = .ok (.enter gf args) w) {B : Nat} {s : ByteArray} {xs : List ByteArray}
    (hseq : ∀ (l : Nat) (J : List ByteArray → World → Prop) (W : World), (∀ pre W v, J pre W → J pre (W.setCell ⟨B, 0, none⟩ v)) →
      (∀ pre x W cur, J pre W → Boxes3 W B cur → pre.length < xs.length → YieldAt Fence.wide (n - 1 - 1) P l #[.string x] W fun e W' => e = .returned (.bool true) ∧ J (pre ++ [x]) W' ∧ Boxes3 W' B cur) →
      Boxes3 W B s → J [] W → CallsIn Fence.wide (n - 1) P gf (#[.func (.yield l) #[] #[]] ++ lb) W fun e W' => (∃ v, e = .returned v) ∧ J xs W')
    (hbx : Boxes3 w B s) (hps : ps.size = 1) (I : List ByteArray → World → Prop) (hIs : ∀ pre W v, I pre W → I pre (W.setCell ⟨B, 0, none⟩ v)) (hI : OwnFrom w.heap.size I) (h0 : I [] w) (a₁ : ByteArray → Act)
    (hassign : ∀ (l : Nat) (x : ByteArray) (W : World) (K : Act → World → Prop), K (a₁ x) W →
      assign.wpIn (Fence.wide.inRound l) (n - 1 - 1) P (Exit.then K (fun _ _ _ => False)) { tmps := (ps.zip #[.string x]).foldl (fun t (p, v) => t.setIfInBounds p v) a.tmps, defers := [] } W)
    (hbody : ∀ (l : Nat) (pre : List ByteArray) (x : ByteArray) (W : World) (cur : ByteArray), I pre W → Boxes3 W B cur → pre.length < xs.length → w.heap.size ≤ W.heap.size → body.wpIn (Fence.wide.inRound l) (n - 1 - 1) P (postB w.heap.size B cur I (pre ++ [x]) W) (a₁ x) W)
    (hdone : ∀ (D : Nat) (W : World), w.heap.size ≤ D → I xs W → W.heap[D]? = some (.deferred (some [])) → Q .normal { a with defers := { target := .collected D, args := #[] } :: a.defers } W) :
    (Code.rangeFunc g ps assign body).wpIn Fence.wide n P Q a w := by
  have hB2 : B + 2 < w.heap.size := hbx.2.2.lt
  refine wpIn_rangeFunc ?_
  intro fn hfn
  obtain ⟨rec, hrec⟩ : ∃ rec : LoopState → Option Code → Loop, rec = fun st pe => { state := st, pending := pe, fn, tmps := a.tmps, params := ps, assign, body, defers := w.heap.size } := ⟨_, rfl⟩
  obtain ⟨W1, hW1⟩ : ∃ W1, (w.alloc (.deferred (some []))).alloc (.loop (rec .ready none)) = W1 := ⟨_, rfl⟩
  have hL1 : W1.heap[w.heap.size + 1]? = some (.loop (rec .ready none)) := by
    rw [← hW1]; have := World.alloc_heap_new (w.alloc (.deferred (some []))) (.loop (rec .ready none)); rwa [World.size_alloc] at this
  have hK1 : W1.heap[w.heap.size]? = some (.deferred (some [])) := by
    rw [← hW1]; exact (Below.heap_alloc _ _ _ (by simp)).trans (World.alloc_heap_new w _)
  have hI1 : I [] W1 := by rw [← hW1]; exact hI.alloc _ (hI.alloc _ h0)
  have hbx1 : Boxes3 W1 B s := by
    rw [← hW1]; exact (hbx.grown (World.grownBy_alloc w _ none) (by simp)).grown (World.grownBy_alloc _ _ none) (by simp)
  refine ⟨w.heap.size + 1, [{ target := .collected w.heap.size, args := #[] }], W1, { target := .fn (.func gf) lb, args := #[.func (.yield (w.heap.size + 1)) #[] #[]] }, W1, gf,
    #[.func (.yield (w.heap.size + 1)) #[] #[]] ++ lb, W1, ?_, ?_, ?_, ?_, fun _ => h1, ?_⟩
  · rw [← hW1, hrec]; exact run_enterLoop_outer _ _ _ _ _
  · simp only [resolve, hg]
    simp [go_sem]
  · intro f' hf'; exact trivial
  · simp [invoke, go_sem, eg]
  · refine (hseq (w.heap.size + 1)
      (fun pre W => I pre W ∧ W.heap[w.heap.size + 1]? = some (.loop (rec .ready none)) ∧ W.heap[w.heap.size]? = some (.deferred (some [])))
      W1 ?_ ?_ hbx1 ⟨hI1, hL1, hK1⟩).mono ?_
    · rintro pre W v ⟨hi, hl, hk⟩
      exact ⟨hIs _ _ _ hi, (Below.heap_setCell W ⟨B, 0, none⟩ v _ (by simp; omega)).trans hl, (Below.heap_setCell W ⟨B, 0, none⟩ v _ (by simp; omega)).trans hk⟩
    · rintro pre x W cur ⟨hi, hl, hk⟩ hbc hlen
      have hlt : w.heap.size + 1 < W.heap.size := (Array.getElem?_eq_some_iff.1 hl).1
      have hy := run_yield (P := P) (args := #[.string x]) hl (by rw [hrec]; exact hps.symm)
      rw [hrec] at hy
      refine ⟨fn, _, assign, body, hy, roundIn_of_wpIn hfn (hassign _ x W _ ⟨_, run_beginRound hl (by rw [hrec]), ?_⟩)⟩
      have hl2 : (W.putObj (w.heap.size + 1) (.loop { rec .ready none with state := .busy })).heap[w.heap.size + 1]? = some (.loop { rec .ready none with state := .busy }) := World.putObj_heap_same hlt
      have hk2 : (W.putObj (w.heap.size + 1) (.loop { rec .ready none with state := .busy })).heap[w.heap.size]? = some (.deferred (some [])) := (World.putObj_heap_other (by omega)).trans hk
      refine wpIn_mono (hbody _ pre x _ cur (hI.putObj _ hi (by omega) hl rfl) (hbc.putObj (by omega) _) hlen (Nat.le_trans (by omega) (grownBy_putObj' W (w.heap.size + 1) _).size)) ?_
      rintro e a3 W3 hp
      cases e with
      | normal =>
        obtain ⟨hk3, hi3, hb3⟩ := hp
        have hl3 := hk3.same _ _ (by omega) hl2 rfl
        have hr := run_endRound (P := P) none hl3
        rw [hrec] at hr
        refine ⟨_, _, hr, rfl, ⟨hI.putObj _ hi3 (by omega) hl3 rfl, ?_, ?_⟩, hb3.putObj (by omega) _⟩
        · have := World.putObj_heap_same (o := .loop (rec .ready none)) (Array.getElem?_eq_some_iff.1 hl3).1
          rw [hrec] at this ⊢; exact this
        · exact (World.putObj_heap_other (by omega)).trans (hk3.same _ _ (Nat.le_refl _) hk2 rfl)
      | ret => exact hp.elim
      | exit id => exact hp.elim
      | goto t => exact hp.elim
      | panic ch => exact hp.elim
      | outgrown => exact hp.elim
    · rintro e W2 ⟨⟨v, rfl⟩, hi, hl, hk⟩
      exact ⟨none, _, by have := run_endLoop (P := P) hl (by rw [hrec]; simp); rw [hrec] at this; exact this, hdone _ _ (Nat.le_refl _) (hI.putObj _ hi (by omega) hl rfl) ((World.putObj_heap_other (by omega)).trans hk)⟩
theorem lv_length (l : List UInt8) : (lv l).length ≤ l.length + 1 := by
  induction l with
  | nil => simp [lv]
  | cons c r ih =>
    unfold lv
    split
    · simp; omega
    · simp; omega
theorem levels_length (s : ByteArray) : (levels s).length ≤ s.size + 1 := by unfold levels; rw [List.length_map]; simpa using lv_length s.data.toList
/-- The caller's own state: out's box, the row, and nothing that lay has turned. -/
def LvI (w : World) (pre : List ByteArray) (W : World) : Prop :=
  (∃ v, Boxed W w.heap.size 42 v ∧ W.ownsRow (w.heap.size + 4) 9 1 v (strs pre).length (strs pre)) ∧ Below w.heap.size w W ∧ w.heap.size + 4 ≤ W.heap.size
set_option maxRecDepth 100000 in
set_option maxHeartbeats 2000000 in
theorem levels_in (s : ByteArray) (w : World) (hs : s.size ≤ 1000000000) :
    CallsIn Fence.wide 6 Tryz.prog 85 #[.string s] w fun e w' => ∃ v, e = .returned v ∧ OwnS w' w.heap.size v (levels s) ∧ Below w.heap.size w w' := by
  refine callsIn_of_wp_marks Tryz.func85 rfl trivial ?_ rfl
  simp only [Tryz.ntmps85, List.size_toArray, List.length_cons, List.length_nil, Nat.reduceAdd, Nat.reduceSub, Array.replicate_succ, Array.replicate_zero, List.push_toArray, List.append_toArray, List.nil_append, List.cons_append]
  gi_wp2_with (refine ⟨trivial, ?_⟩; gi_at_call 147; refine (callsIn_wide.2 (splitseq_any s _ _)).mono ?_; rintro e w' ⟨rfl, rfl⟩)
  obtain ⟨W0, hW0⟩ : ∃ W0, (((w.alloc (.cells #[.slice none 0 0] 42)).alloc (.cells #[.string s] 9)).alloc (.cells #[.string ⟨#[47]⟩] 9)).alloc (.cells #[.int .i64 0] 3) = W0 := ⟨_, rfl⟩
  have hsz : W0.heap.size = w.heap.size + 4 := by rw [← hW0]; simp
  have hbel : Below w.heap.size w W0 := by rw [← hW0]; exact below_al (below_al (below_al (below_al (Below.refl _ _) _) _) _) _
  have hout : Boxed W0 w.heap.size 42 (.slice none 0 0) := by rw [← hW0]; exact (((Boxed.new w 42 _).alloc _).alloc _).alloc _
  have hbx : Boxes3 W0 (w.heap.size + 1) s := by
    rw [← hW0]
    refine ⟨?_, ?_, ?_⟩
    · have := ((Boxed.new (w.alloc (.cells #[.slice none 0 0] 42)) 9 (.string s)).alloc (.cells #[.string ⟨#[47]⟩] 9)).alloc (.cells #[.int .i64 0] 3)
      simpa using this
    · have := (Boxed.new ((w.alloc (.cells #[.slice none 0 0] 42)).alloc (.cells #[.string s] 9)) 9 (.string ⟨#[47]⟩)).alloc (.cells #[.int .i64 0] 3)
      simpa using this
    · have := Boxed.new (((w.alloc (.cells #[.slice none 0 0] 42)).alloc (.cells #[.string s] 9)).alloc (.cells #[.string ⟨#[47]⟩] 9)) 3 (.int .i64 0)
      simpa using this
  rw [hW0]
  clear hW0
  have hll := levels_length s
  refine wpIn_rangeFunc_B (by omega) (gf := 222) (lb := #[.pointer (some ⟨w.heap.size + 1 + 1, 0, none⟩), .pointer (some ⟨w.heap.size + 1, 0, none⟩), .pointer (some ⟨w.heap.size + 1 + 2, 0, none⟩)]) rfl (enters_of Tryz.func222 (by kernel_rfl) rfl) (B := w.heap.size + 1) (s := s) (xs := levels s)
    (fun l J W hJ hY hB h0 => split1_in 5 (by omega) l (w.heap.size + 1) s J (by omega) hJ hY W hB h0) hbx rfl (LvI w) ?st ?own ?h0
    (fun x => { tmps := #[.string s, undef, .slice none 0 0, .pointer (some ⟨w.heap.size, 0, none⟩), .string x, .string s, .func (.func 222) #[] #[.pointer (some ⟨w.heap.size + 1 + 1, 0, none⟩), .pointer (some ⟨w.heap.size + 1, 0, none⟩), .pointer (some ⟨w.heap.size + 1 + 2, 0, none⟩)], .string x, undef, undef, undef, undef, undef], defers := [] }) ?assign ?body ?done
  case st =>
    rintro pre W v ⟨⟨u, hu, hr⟩, hb, hz⟩
    exact ⟨⟨u, hu.kept (grownBy_setCell' W _ v) (by simp), ownsRow_setCell_below hr (by simp) v⟩, hb.setCell (by simp) v, by simpa [World.setCell] using hz⟩
  case own =>
    rintro pre W W' row ⟨⟨u, hu, hr⟩, hb, hz⟩ hg hrow
    have h1 : ∀ r, row = some r → w.heap.size ≤ r := fun r e => by have := (hrow r e).1; omega
    refine ⟨⟨u, hu.kept hg (fun e => by have := (hrow _ e.symm).1; omega), hr.kept hg ?_⟩, hb.grown hg hb.size h1, Nat.le_trans hz hg.size⟩
    rcases hr.2 with ⟨rfl, _⟩ | ⟨g, cap, cur, rfl, _, hgb, _⟩
    · exact .inl rfl
    · refine .inr fun e' => ?_
      obtain ⟨_, o, ho, hc⟩ := hrow g (by simpa [Value.ownBlock] using e'.symm)
      rw [hgb] at ho; cases ho; cases hc
  case h0 => exact ⟨⟨_, hout, World.ownsRow_nil _ _ _ _⟩, hbel, by omega⟩
  case assign =>
    intro l x W K hK
    gi_wp2
    exact hK
  case body =>
    rintro l pre x W cur ⟨⟨v, hv, hrow⟩, hB, hz⟩ hbc hlt _
    have hc := hv.cell
    have hpl : pre.length ≤ 1000000000 := by omega
    obtain ⟨i0, hi, hz0, hz1, hz2⟩ := info_parts info9
    gi_wp2_with (gi_at_builtin; go_must (refine wpListIn_append_own _ rfl _ _ 42 rfl (w.heap.size + 4) 9 i0 (.string ⟨#[]⟩) 1 16 Tryz.underlying42 hi hz0 hz1 hz2 rfl (by decide) v _ _ rfl (hrow.alloc _) ⟨W.heap.size, 0, none⟩ 1 1 [.string x] rfl rfl (cell_one_new _ _ _) (by simp [Value.oneCell']) (by simp [strs, maxLen]; omega) (by simp [strs]; omega) (by simp; omega) ?_); intro v' w1 hown' hgrow _; obtain ⟨g', cap', rfl⟩ := ownsRow_succ hown'; have hv1 := (hv.alloc (.cells #[.string x] 9)).kept hgrow (hv.not_row (by decide) hrow); have hc1 := hv1.cell; have hf1 := hv1.frozen)
    have hr2 := hown'.kept (grownBy_setCell' w1 w.heap.size (.slice (some ⟨g', 0, none⟩) ((strs pre).length + 1) cap')) (.inr (hv1.not_row (by decide) hown').symm)
    have hrw : ∀ r, v.ownBlock = some r → w.heap.size + 4 ≤ r := fun r e => (hrow.lt r e).1
    refine ⟨?_, ⟨⟨_, hv1.set _, ?_⟩, ?_, ?_⟩, ?_⟩
    · refine KeepsOthers.from (((KeepsOthers.alloc W _).trans (KeepsOthers.of_grownBy hgrow fun j o ej hj => ?_)).trans (KeepsOthers.setCell _ _ _)) _
      rcases (hrow.alloc (.cells #[.string x] 9)).2 with ⟨rfl, _⟩ | ⟨g, cap, cur, rfl, _, hgb, _⟩
      · simp [Value.ownBlock] at ej
      · obtain rfl : g = j := by simpa [Value.ownBlock] using ej
        rw [hgb] at hj; cases hj; rfl
    · rw [← strs_snoc, List.length_append]; exact hr2
    · exact ((below_al hB _).grown hgrow (by have := hB.size; simp; omega) (fun r e => by have := hrw r e; omega)).setCell (by simp) _
    · have h2 := hgrow.size
      simp [World.setCell] at h2 ⊢
      omega
    · refine ((hbc.grown (World.grownBy_alloc W _ none) (by simp)).grown hgrow (fun r e => .inl (by have := hrw r e; omega))).grown (grownBy_setCell' w1 w.heap.size _) (fun r e => .inr ?_)
      cases e; omega
  case done =>
    rintro D W hD ⟨⟨v, hv, hrow⟩, hB, hz⟩ hK
    have hc := hv.cell
    gi_wp2
    refine ⟨by simp, .inl ⟨_, _, rfl, run_takeDeferred hK, ?_⟩⟩
    exact ⟨_, results_tmp rfl _ _ _, v, rfl, own_weaken (ownsRow_putObj hrow _ hK rfl) (by omega), hB.trans (belowK_b (w := w) (Nat.le_refl _) W D _ _ (by omega) hK rfl rfl)⟩
theorem levels_any (s : ByteArray) (w : World) (hs : s.size ≤ 1000000000) :
    Calls Tryz.prog 85 #[.string s] w fun e w' => ∃ v, e = .returned v ∧ OwnS w' w.heap.size v (levels s) ∧ Below w.heap.size w w' := callsIn_wide.1 (levels_in s w hs)
end Go.Proofs.YtjabhhpmofodlaaGreatDoor
