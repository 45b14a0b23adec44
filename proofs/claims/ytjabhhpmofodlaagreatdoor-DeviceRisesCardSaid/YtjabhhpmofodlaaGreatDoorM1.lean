/- Maps keyed by int, as sorted lists of keys and values. -/
import Derived.Maps.OwnSet
import Derived.Maps.OwnOps
import Derived.Lib.SlKeysI
import Derived.Test.YtjabhhpmofodlaaGreatDoorLib
namespace Go.Proofs.YtjabhhpmofodlaaGreatDoor
open Go.RowKit Go.Maps
set_option linter.unusedVariables false
set_option linter.unusedSimpArgs false
abbrev IMap := List (Int × Value)
def ent (p : Int × Value) : Lit × DataW Value := (.int .i64 p.1, .held p.2)
def dat (m : IMap) : DataW Value := .map (m.map ent)
def Rv (v : Value) : Option (DataW Value × List MemPlace) := some (.held v, [])
def MapAt (P : Program) (w : World) (b : Nat) (m : IMap) : Prop := w.ownsMap P 3 Rv b m.length (dat m)
def mget (m : IMap) (k : Int) : Option Value := (m.find? fun p => p.1 == k).map (·.2)
def mins (x : Int × Value) : IMap → IMap
  | [] => [x]
  | y :: r => if x.1 < y.1 then x :: y :: r else y :: mins x r
def mdel (m : IMap) (k : Int) : IMap := m.filter fun p => !(p.1 == k)
def mput (m : IMap) (k : Int) (v : Value) : IMap := mins (k, v) (mdel m k)
theorem ent_same (p : Int × Value) (k : Int) : (ent p).1.sameKey (.int .i64 k) = (p.1 == k) := by
  simp only [ent, Lit.sameKey, true_and]; rfl
theorem dat_find (m : IMap) (k : Int) : (m.map ent).find? (fun p => p.1.sameKey (.int .i64 k)) = (m.find? fun p => p.1 == k).map ent := by
  rw [List.find?_map]; congr 1
  simp [Function.comp_def, ent_same]
theorem dat_at (m : IMap) (k : Int) (z : Value) : (dat m).atKey (.int .i64 k) (.held z) = .held ((mget m k).getD z) := by
  unfold dat DataW.atKey mget
  simp only [dat_find]
  cases m.find? (fun p => p.1 == k) <;> simp [ent]
theorem dat_has (m : IMap) (k : Int) : Maps.has (dat m) (.int .i64 k) = (mget m k).isSome := by
  unfold dat mget
  rw [Maps.has_eq, List.any_map]
  simp only [Function.comp_def, ent_same]
  rw [Option.isSome_map, Bool.eq_iff_iff, List.find?_isSome]
  simp
theorem dat_del (m : IMap) (k : Int) : (dat m).del (.int .i64 k) = dat (mdel m k) := by
  unfold dat DataW.del mdel
  simp only [List.filter_map]
  congr 2
  simp [Function.comp_def, ent_same]
theorem mins_ent (x : Int × Value) (m : IMap) : DataW.insert (ent x) (m.map ent) = (mins x m).map ent := by
  induction m with
  | nil => rfl
  | cons y r ih =>
    simp only [List.map_cons, DataW.insert, mins]
    have : (ent x).1.before (ent y).1 = decide (x.1 < y.1) := rfl
    rw [this]
    by_cases h : x.1 < y.1 <;> simp [h, ih]
theorem dat_put (m : IMap) (k : Int) (v : Value) : (dat m).put (.int .i64 k) (.held v) = dat (mput m k v) := by
  have h := dat_del m k
  unfold dat DataW.del at h
  injection h with h
  unfold dat DataW.put mput
  simp only [h]
  rw [← mins_ent]; rfl
theorem dat_size (m : IMap) : Maps.size (dat m) = m.length := by simp [dat, Maps.size]
theorem dat_keys (m : IMap) : intKeys (dat m) = m.map (·.1) := by
  
  simp only [dat, intKeys, List.map_map]
  exact List.map_congr_left fun p _ => rfl
theorem own_tight {P : Program} {w : World} {b n : Nat} {m : IMap} (h : w.ownsMap P 3 Rv b n (dat m)) : MapAt P w b m := by
  obtain ⟨es, clock, hb, F, hs, hD⟩ := h
  refine ⟨es, clock, hb, F, ?_, hD⟩
  have := congrArg Maps.size hD
  rw [dat_size] at this
  simp [Maps.size, length_sorted] at this
  omega
section
variable {P : Program} {w : World} {b : Nat} {m : IMap}
theorem MapAt.kept {w' : World} {row : Option Nat} (h : MapAt P w b m) (hg : w.grownBy w' row) (hne : some b ≠ row) : MapAt P w' b m := World.ownsMap.kept h hg hne
theorem MapAt.alloc (h : MapAt P w b m) (o : Obj) : MapAt P (w.alloc o) b m := World.ownsMap.alloc h o
theorem MapAt.lt (h : MapAt P w b m) : b < w.heap.size := World.ownsMap.lt h
theorem MapAt.same {w' : World} (h : MapAt P w b m) (hb : w'.heap[b]? = w.heap[b]?) : MapAt P w' b m := by
  obtain ⟨es, clock, hb', r⟩ := h
  exact ⟨es, clock, hb.trans hb', r⟩
theorem MapAt.below {B : Nat} {w' : World} (h : MapAt P w b m) (hb : Below B w w') (hlt : b < B) : MapAt P w' b m := by
  obtain ⟨es, clock, hb', r⟩ := h
  exact ⟨es, clock, (hb.block b hlt).trans hb', r⟩
theorem MapAt.setCell (h : MapAt P w b m) {a : Addr} (ha : b ≠ a.block) (u : Value) : MapAt P (w.setCell a u) b m := World.ownsMap.setCell h ha u
theorem MapAt.made (w : World) : MapAt P (w.alloc (.map #[] 0)) w.heap.size [] := World.ownsMap_made w P 3 Rv
variable {ops : Array Oper} {rest : List Oper} {o : Oper} {a : Act} {Q : Exit → Act → World → Prop}
theorem wp_look (h3 : P.underlying 3 = some (.int .i64)) (hg : o.guard = none) (mo x : Operand) (t : TypeId) (hop : o.op = Op.lookup t mo x false) (e : TypeId) (ht : P.underlying t = some (.map 3 e)) (z : Value) (hz : (zeroValue e).run P w = .ok z w)
    (b : Nat) (m : IMap) (hm : a.eval mo = .map (some b)) (hown : MapAt P w b m) (k : Int) (hx : a.eval x = .int .i64 k) (hk : (Lit.int .i64 k).wf = true)
    (hK : wpList P ops Q rest (a.put o.dst ((mget m k).getD z)) w) : wpList P ops Q (o :: rest) a w := by
  refine wpList_plain hg fun K' hK' => ?_
  obtain ⟨v, ps, hrun, hv⟩ := World.ownsMap.lookup hown (int_keyed h3) ht hz (zd := .held z) (zp := []) rfl (keyOf_int_mk h3 hk)
  rw [dat_at] at hv
  simp only [Rv, Option.some.injEq, Prod.mk.injEq, DataW.held.injEq] at hv
  rw [hv.1] at hrun
  unfold Oper.wp
  simp [execOp, hop, hm, hx, hrun, Result.andThen]
  exact hK' _ _ hK
theorem wp_look_ok (h3 : P.underlying 3 = some (.int .i64)) (hg : o.guard = none) (mo x : Operand) (t : TypeId) (hop : o.op = Op.lookup t mo x true) (e : TypeId) (ht : P.underlying t = some (.map 3 e)) (z : Value) (hz : (zeroValue e).run P w = .ok z w)
    (b : Nat) (m : IMap) (hm : a.eval mo = .map (some b)) (hown : MapAt P w b m) (k : Int) (hx : a.eval x = .int .i64 k) (hk : (Lit.int .i64 k).wf = true)
    (hK : wpList P ops Q rest (a.put o.dst (.tuple #[(mget m k).getD z, .bool (mget m k).isSome])) w) : wpList P ops Q (o :: rest) a w := by
  refine wpList_lookup_own_ok w hg mo x t hop 3 e (int_keyed h3) ht Rv hz (.held z) [] rfl b m.length (dat m) hm hown _ _ hx (keyOf_int_mk h3 hk) ?_
  intro v ps hv
  rw [dat_at] at hv
  simp only [Rv, Option.some.injEq, Prod.mk.injEq, DataW.held.injEq] at hv
  rw [hv.1, dat_has]
  exact hK
theorem wp_mput (h3 : P.underlying 3 = some (.int .i64)) (hg : o.guard = none) (mo x v : Operand) (t : TypeId) (hop : o.op = Op.mapUpdate t mo x v) (e : TypeId) (ht : P.underlying t = some (.map 3 e))
    (b : Nat) (m : IMap) (hm : a.eval mo = .map (some b)) (hown : MapAt P w b m) (hn : m.length < maxLen) (k : Int) (val : Value) (hx : a.eval x = .int .i64 k) (hv : a.eval v = val) (hk : (Lit.int .i64 k).wf = true)
    (hK : ∀ w', MapAt P w' b (mput m k val) → w.mapTurned w' b → wpList P ops Q rest (a.put o.dst undef) w') : wpList P ops Q (o :: rest) a w := by
  refine wpList_mapUpdate_in w hg mo x v t hop 3 e (int_keyed h3) ht Rv b m.length (dat m) hm hown hn _ val _ hx hv (keyOf_int_mk h3 hk) (.held val) [] rfl ?_
  intro w' h1 h2
  rw [dat_put] at h1
  exact hK w' (own_tight h1) h2
theorem wp_mdel (h3 : P.underlying 3 = some (.int .i64)) (hg : o.guard = none) (mo x : Operand) (t : TypeId) (hop : o.op = Op.call { callee := Callee.builtin Builtin.delete, args := #[mo, x], argTypes := #[t, 3] }) (e : TypeId) (ht : P.underlying t = some (.map 3 e))
    (b : Nat) (m : IMap) (hm : a.eval mo = .map (some b)) (hown : MapAt P w b m) (k : Int) (hx : a.eval x = .int .i64 k) (hk : (Lit.int .i64 k).wf = true)
    (hK : ∀ w', MapAt P w' b (mdel m k) → w.mapTurned w' b → wpList P ops Q rest (a.put o.dst (.tuple #[])) w') : wpList P ops Q (o :: rest) a w := by
  refine wpList_delete_own w hg mo x t 3 hop e (int_keyed h3) ht Rv b m.length (dat m) hm hown _ _ hx (keyOf_int_mk h3 hk) ?_
  intro w' h1 h2
  rw [dat_del] at h1
  exact hK w' (own_tight h1) h2
theorem MapAt.len {t e : TypeId} (h : MapAt P w b m) (ht : P.underlying t = some (.map 3 e)) (ty : TypeId) : (Builtin.len_ #[t] ty #[.map (some b)]).run P w = .ok (.int .i64 m.length) w := by
  have := World.ownsMap.len h ht ty
  rwa [dat_size] at this
end
/-! ### the lists' own laws -/
def MSorted (m : IMap) : Prop := m.Pairwise fun p q => p.1 < q.1
theorem mem_mins {x p : Int × Value} {m : IMap} : p ∈ mins x m ↔ p = x ∨ p ∈ m := by
  induction m with
  | nil => simp [mins]
  | cons y r ih => unfold mins; split <;> simp [ih]; grind
theorem MSorted.del {m : IMap} (h : MSorted m) (k : Int) : MSorted (mdel m k) := List.Pairwise.filter _ h
theorem MSorted.ins {m : IMap} (h : MSorted m) (x : Int × Value) (hx : ∀ p ∈ m, p.1 ≠ x.1) : MSorted (mins x m) := by
  induction m with
  | nil => simp [mins, MSorted]
  | cons y r ih =>
    unfold MSorted at *
    unfold mins
    rw [List.pairwise_cons] at h
    split
    · rename_i hl
      simp only [List.pairwise_cons, List.mem_cons]
      refine ⟨?_, h.1, h.2⟩
      rintro p (rfl | hp)
      · exact hl
      · have := h.1 p hp; omega
    · rename_i hl
      rw [List.pairwise_cons]
      refine ⟨?_, ih h.2 fun p hp => hx p (by simp [hp])⟩
      intro p hp
      rcases mem_mins.1 hp with rfl | hp
      · have := hx y (by simp); omega
      · exact h.1 p hp
theorem MSorted.put {m : IMap} (h : MSorted m) (k : Int) (v : Value) : MSorted (mput m k v) := (h.del k).ins _ (by intro p hp; simpa [mdel] using (List.mem_filter.1 hp).2)
theorem mget_none {m : IMap} {k : Int} : mget m k = none ↔ ∀ p ∈ m, p.1 ≠ k := by
  simp [mget, List.find?_eq_none]
theorem mdel_none {m : IMap} {k : Int} (h : mget m k = none) : mdel m k = m := by
  rw [mget_none] at h
  unfold mdel
  rw [List.filter_eq_self]
  intro p hp
  simpa using h p hp
theorem mget_mem {m : IMap} (h : MSorted m) {k : Int} {v : Value} : mget m k = some v ↔ (k, v) ∈ m := by
  induction m with
  | nil => simp [mget]
  | cons y r ih =>
    unfold MSorted at h ih
    rw [List.pairwise_cons] at h
    have ih := ih h.2
    unfold mget at ih ⊢
    rw [List.find?_cons]
    by_cases hy : y.1 = k
    · have e : (y.1 == k) = true := by simpa using hy
      simp only [e, Option.map_some, Option.some.injEq, List.mem_cons]
      constructor
      · rintro rfl; left; rw [← hy]
      · rintro (rfl | hm)
        · rfl
        · have := h.1 _ hm; simp at this; omega
    · have e : (y.1 == k) = false := by simpa using hy
      simp only [e, List.mem_cons]
      rw [ih]
      constructor
      · exact fun h => .inr h
      · rintro (rfl | hm)
        · exact absurd rfl hy
        · exact hm
/-! ### a frame with a footprint -/
/-- All blocks of w but those of S stand in w'. -/
structure Turn (S : Nat → Prop) (w w' : World) : Prop where
  os : w'.os = w.os
  tape : w'.tape = w.tape
  output : w'.output = w.output
  size : w.heap.size ≤ w'.heap.size
  block : ∀ i, i < w.heap.size → ¬ S i → w'.heap[i]? = w.heap[i]?
theorem Turn.refl (S : Nat → Prop) (w : World) : Turn S w w := ⟨rfl, rfl, rfl, Nat.le_refl _, fun _ _ _ => rfl⟩
theorem Turn.mono {S T : Nat → Prop} {w w' : World} (h : Turn S w w') (hs : ∀ i, i < w.heap.size → S i → T i) : Turn T w w' := ⟨h.os, h.tape, h.output, h.size, fun i hi ht => h.block i hi fun hS => ht (hs i hi hS)⟩
theorem Turn.trans {S T : Nat → Prop} {a b c : World} (h : Turn S a b) (k : Turn T b c) (hs : ∀ i, i < a.heap.size → T i → S i) : Turn S a c :=
  ⟨k.os.trans h.os, k.tape.trans h.tape, k.output.trans h.output, Nat.le_trans h.size k.size, fun i hi hS => (k.block i (Nat.lt_of_lt_of_le hi h.size) fun hT => hS (hs i hi hT)).trans (h.block i hi hS)⟩
theorem Turn.of_below {B : Nat} {S : Nat → Prop} {w w' : World} (h : Below B w w') (hs : ∀ i, i < w.heap.size → B ≤ i → S i) : Turn S w w' := ⟨h.os, h.tape, h.output, h.size, fun i hi hS => h.block i (Nat.lt_of_not_le fun hle => hS (hs i hi hle))⟩
theorem Turn.of_below' {S : Nat → Prop} {w w' : World} (h : Below w.heap.size w w') : Turn S w w' := Turn.of_below h fun i hi hb => by omega
theorem Turn.below {B : Nat} {S : Nat → Prop} {w w' : World} (h : Turn S w w') (hB : B ≤ w.heap.size) (hs : ∀ i, i < B → ¬ S i) : Below B w w' := ⟨h.os, h.tape, h.output, h.size, fun i hi => h.block i (by omega) (hs i hi)⟩
theorem Turn.grown {S : Nat → Prop} {w w' : World} {row : Option Nat} (hg : w.grownBy w' row) (hr : ∀ k, row = some k → S k) : Turn S w w' := ⟨hg.os, hg.tape, hg.output, hg.size, fun i hi hS => hg.block i hi fun e => hS (hr i e.symm)⟩
theorem Turn.alloc {S : Nat → Prop} {a w : World} (h : Turn S a w) (o : Obj) : Turn S a (w.alloc o) := h.trans (T := S) (Turn.grown (World.grownBy_alloc w o none) (by simp)) fun i _ h => h
theorem Turn.setCell {S : Nat → Prop} {a w : World} (h : Turn S a w) {p : Addr} (hp : p.block < a.heap.size → S p.block) (u : Value) : Turn S a (w.setCell p u) :=
  h.trans (T := fun i => i = p.block) ⟨rfl, rfl, rfl, by simp [World.setCell], fun i hi hne => Below.heap_setCell w p u i hne⟩ fun i hi e => by subst e; exact hp hi
theorem Turn.mapTurned {S : Nat → Prop} {a w w' : World} {b : Nat} (h : Turn S a w) (hm : w.mapTurned w' b) (hb : b < a.heap.size → S b) : Turn S a w' :=
  h.trans (T := fun i => i = b) (Turn.grown hm.grown fun k e => by cases e; rfl) fun i hi e => by subst e; exact hb hi
theorem MapAt.turn {P : Program} {S : Nat → Prop} {w w' : World} {b : Nat} {m : IMap} (h : MapAt P w b m) (hb : Turn S w w') (hs : ¬ S b) : MapAt P w' b m := h.same (hb.block b h.lt hs)
end Go.Proofs.YtjabhhpmofodlaaGreatDoor
