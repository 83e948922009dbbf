/- A part of the proof: A, M, B, P, R, K, S, C, D, E, F, E2. -/
import Derived.Test.YtmjhflmkgmfjkaaGreatDoorProg
import Derived.WalkKit
import Derived.WalkSpells
import Derived.WalkLawsBesides
import Derived.Lib.Hide
import Derived.Deep.QuietTactic
import Derived.BigQuiet
import Derived.MapKept
import Derived.Maps.RangeWalk
import Derived.Carry
import Derived.Deep.RegionHeld3
import Derived.Deep.RegionWith
import Derived.Outline
import Derived.Test.YtmjhflmkgmfjkaaGreatDoorPa
import Derived.BigRegion
import Derived.LoopTactic
import Derived.Test.YtmjhflmkgmfjkaaGreatDoorWb
import Derived.Lib.SliceRun
import Derived.Shelf.Abstract
set_option linter.unusedVariables false
set_option linter.unusedSimpArgs false
namespace Go.Proofs.YtmjhflmkgmfjkaaGreatDoor
open Go.RowKit
def blk (n : Int) : Int := (n + 511) / 512
def innr (b : Int) : Int := if b ≤ 8 then 0 else if b ≤ 136 then 1 else 2 + (b - 9) / 128
def allB (n : Int) : Int := blk n + innr (blk n)
theorem ret_i {a b : Int} (h : a = b) : Ending.returned (.int .i64 a) = .returned (.int .i64 b) := by rw [h]
theorem blk_bd (n : Int) (h0 : 0 ≤ n) (h1 : n ≤ 8458240) : 0 ≤ blk n ∧ blk n ≤ 16520 := by unfold blk; omega
theorem innr_bd (b : Int) (h0 : 0 ≤ b) (h1 : b ≤ 16520) : 0 ≤ innr b ∧ innr b ≤ 200 := by unfold innr; split <;> (try split) <;> omega
theorem allB_bd (n : Int) (h0 : 0 ≤ n) (h1 : n ≤ 8458240) : 0 ≤ allB n ∧ allB n ≤ 16720 := by
  have a := blk_bd n h0 h1
  have b := innr_bd (blk n) a.1 a.2
  unfold allB; omega
theorem most_calls (w : World) : Calls Tryz.prog 69 #[] w fun e w' => e = .returned (.int .i64 8458240) ∧ w = w' := by
  go_enter Tryz.func69, Tryz.ntmps69
  go_wp2
  go_ret
  exact ⟨rfl, rfl⟩
theorem blocks_calls (n : Int) (w : World) (h0 : 0 ≤ n) (h1 : n ≤ 8458240) : Calls Tryz.prog 95 #[.int .i64 n] w fun e w' => e = .returned (.int .i64 (blk n)) ∧ w = w' := by
  go_enter Tryz.func95, Tryz.ntmps95
  go_wp2
  go_ret
  exact ⟨ret_i (by unfold blk; omega), rfl⟩
theorem inner_calls (n : Int) (w : World) (h0 : 0 ≤ n) (h1 : n ≤ 8458240) : Calls Tryz.prog 96 #[.int .i64 n] w fun e w' => e = .returned (.int .i64 (innr (blk n))) ∧ w = w' := by
  have hb := blk_bd n h0 h1
  go_enter Tryz.func96, Tryz.ntmps96
  go_wp2_with (go_at_call 95; refine (blocks_calls _ _ h0 h1).mono ?_; rintro e w' ⟨rfl, rfl⟩)
  all_goals (go_ret; exact ⟨ret_i (by unfold innr; split <;> (try split) <;> omega), rfl⟩)
theorem all_calls (n : Int) (w : World) (h0 : 0 ≤ n) (h1 : n ≤ 8458240) : Calls Tryz.prog 70 #[.int .i64 n] w fun e w' => e = .returned (.int .i64 (allB n)) ∧ w = w' := by
  have hb := blk_bd n h0 h1
  have hi := innr_bd _ hb.1 hb.2
  go_enter Tryz.func70, Tryz.ntmps70
  go_wp2_with (first | (go_at_call 95; refine (blocks_calls _ _ h0 h1).mono ?_; rintro e w' ⟨rfl, rfl⟩) | (go_at_call 96; refine (inner_calls _ _ h0 h1).mono ?_; rintro e w' ⟨rfl, rfl⟩))
  go_ret
  exact ⟨ret_i (by unfold allB; rfl), rfl⟩
/-- A node of the tree: the block's cells. -/
def NodeB (w : World) (b : Nat) (dir : Bool) (dv kv : Value) (s : Int) : Prop := w.heap[b]? = some (.cells #[.bool dir, dv, kv, .int .i64 s] 85 (0, 0))
theorem NodeB.cells {w : World} {b : Nat} {dir : Bool} {dv kv : Value} {s : Int} (h : NodeB w b dir dv kv s) :
    w.cell? ⟨b, 0, none⟩ = some (.bool dir) ∧ w.cell? ⟨b, 1, none⟩ = some dv ∧ w.cell? ⟨b, 2, none⟩ = some kv ∧ w.cell? ⟨b, 3, none⟩ = some (.int .i64 s) := by
  unfold NodeB at h
  simp [World.cell?, h]
theorem NodeB.frozen {w : World} {b : Nat} {dir : Bool} {dv kv : Value} {s : Int} (h : NodeB w b dir dv kv s) (o : Nat) : w.frozen? ⟨b, o, none⟩ = false := by
  unfold NodeB at h
  simp [World.frozen?, h]
/-- n.blocks() of a directory, of a file. -/
theorem nblocks_dir (b : Nat) (dv kv : Value) (s : Int) (w : World) (hn : NodeB w b true dv kv s) (h0 : 0 ≤ s) (h1 : s ≤ 16520) :
    Calls Tryz.prog 71 #[.pointer (some ⟨b, 0, none⟩)] w fun e w' => e = .returned (.int .i64 (allB (s * 512))) ∧ w = w' := by
  obtain ⟨c0, c1, c2, c3⟩ := hn.cells
  go_enter Tryz.func71, Tryz.ntmps71
  go_wp2_with (go_at_call 70; refine (all_calls _ _ (by omega) (by omega)).mono ?_; rintro e w' ⟨rfl, rfl⟩)
  go_ret
  exact ⟨rfl, rfl⟩
theorem nblocks_file (b : Nat) (a : Option Addr) (n c : Nat) (kv : Value) (s : Int) (w : World) (hn : NodeB w b false (.slice a n c) kv s) (h1 : n ≤ 8458240) :
    Calls Tryz.prog 71 #[.pointer (some ⟨b, 0, none⟩)] w fun e w' => e = .returned (.int .i64 (allB n)) ∧ w = w' := by
  obtain ⟨c0, c1, c2, c3⟩ := hn.cells
  go_enter Tryz.func71, Tryz.ntmps71
  go_wp2_with (go_at_call 70; refine (all_calls _ _ (by omega) (by omega)).mono ?_; rintro e w' ⟨rfl, rfl⟩)
  go_ret
  exact ⟨rfl, rfl⟩
end Go.Proofs.YtmjhflmkgmfjkaaGreatDoor
namespace Go.Proofs.YtmjhflmkgmfjkaaGreatDoor
open Go.RowKit
open Go.ChangeMaps (setBlock)
theorem ba_beq (a b : ByteArray) : (a == b) = decide (a = b) := by
  show ByteArray.beq a b = _
  unfold ByteArray.beq
  cases a with | mk x => cases b with | mk y =>
  by_cases h : x = y
  · subst h; simp
  · simp [h]
theorem lawful_ba : LawfulBEq ByteArray where
  eq_of_beq := by intro a b h; rw [ba_beq] at h; simpa using h
  rfl := by intro a; rw [ba_beq]; simp
attribute [local instance] lawful_ba
structure Keeps (S : Nat → Prop) (w w' : World) : Prop where
  os : w'.os = w.os
  tape : w'.tape = w.tape
  output : w'.output = w.output
  size : w.heap.size ≤ w'.heap.size
  block : ∀ k, k < w.heap.size → ¬ S k → w'.heap[k]? = w.heap[k]?
theorem Keeps.refl (S : Nat → Prop) (w : World) : Keeps S w w := ⟨rfl, rfl, rfl, Nat.le_refl _, fun _ _ _ => rfl⟩
theorem Keeps.mono {S S' : Nat → Prop} {w w' : World} (h : Keeps S w w') (hs : ∀ k, S k → S' k) : Keeps S' w w' := ⟨h.os, h.tape, h.output, h.size, fun k hk hn => h.block k hk (fun x => hn (hs k x))⟩
theorem Keeps.then_ {S S2 : Nat → Prop} {w w1 w2 : World} (h : Keeps S w w1) (k : Keeps S2 w1 w2) (hs : ∀ i, S2 i → S i ∨ w.heap.size ≤ i) : Keeps S w w2 :=
  ⟨k.os.trans h.os, k.tape.trans h.tape, k.output.trans h.output, Nat.le_trans h.size k.size, fun i hi hn => (k.block i (Nat.lt_of_lt_of_le hi h.size) (fun x => (hs i x).elim hn (fun y => by omega))).trans (h.block i hi hn)⟩
theorem Keeps.trans {S : Nat → Prop} {w w1 w2 : World} (h : Keeps S w w1) (k : Keeps S w1 w2) : Keeps S w w2 := h.then_ k (fun _ x => .inl x)
theorem Keeps.of_grown {row : Option Nat} {w w' : World} (h : w.grownBy w' row) : Keeps (fun k => row = some k) w w' := ⟨h.os, h.tape, h.output, h.size, fun k hk hn => h.block k hk (fun e => hn e.symm)⟩
theorem Keeps.of_below {S : Nat → Prop} {w w' : World} (h : Below w.heap.size w w') : Keeps S w w' := ⟨h.os, h.tape, h.output, h.size, fun k hk _ => h.block k hk⟩
theorem Keeps.below {S : Nat → Prop} {w w' : World} (h : Keeps S w w') {B : Nat} (hB : B ≤ w.heap.size) (hs : ∀ k, S k → B ≤ k) : Below B w w' := ⟨h.os, h.tape, h.output, h.size, fun k hk => h.block k (by omega) (fun x => by have := hs k x; omega)⟩
theorem Keeps.alloc {S : Nat → Prop} {w w1 : World} (h : Keeps S w w1) (o : Obj) : Keeps S w (w1.alloc o) := h.then_ (S2 := fun _ => False) (Keeps.of_below ((Below.refl _ w1).alloc (Nat.le_refl _) o)) (fun _ x => x.elim)
theorem Keeps.drew {S : Nat → Prop} {w w1 : World} (h : Keeps S w w1) : Keeps S w w1.drew := ⟨h.os, h.tape, h.output, h.size, h.block⟩
theorem Keeps.drewN {S : Nat → Prop} {w w1 : World} (h : Keeps S w w1) (n : Nat) : Keeps S w (w1.drewN n) := ⟨h.os, h.tape, h.output, h.size, h.block⟩
theorem Keeps.setCell {S : Nat → Prop} {w w1 : World} (h : Keeps S w w1) {p : Addr} (hp : S p.block ∨ w.heap.size ≤ p.block) (u : Value) : Keeps S w (w1.setCell p u) :=
  h.then_ (S2 := fun k => k = p.block) ⟨rfl, rfl, rfl, by simp [World.setCell], fun k _ hn => Below.heap_setCell w1 p u k hn⟩ (fun k hk => by rw [hk]; exact hp)
theorem Keeps.grown {S : Nat → Prop} {row : Option Nat} {w w1 w2 : World} (h : Keeps S w w1) (hg : w1.grownBy w2 row) (hr : ∀ k, row = some k → S k ∨ w.heap.size ≤ k) : Keeps S w w2 := h.then_ (Keeps.of_grown hg) hr
theorem Keeps.blk {S : Nat → Prop} {w w' : World} (h : Keeps S w w') {k : Nat} {o : Obj} (hb : w.heap[k]? = some o) (hn : ¬ S k) : w'.heap[k]? = some o := (h.block k (Array.getElem?_eq_some_iff.1 hb).1 hn).trans hb
theorem Keeps.cell {S : Nat → Prop} {w w' : World} (h : Keeps S w w') {p : Addr} {v : Value} (hb : w.cell? p = some v) (hn : ¬ S p.block) : w'.cell? p = some v :=
  (World.cell?_of_block (w := w) (h.block p.block (World.block_lt_of_cell? w p hb) hn)).trans hb
def aget (l : List (ByteArray × Value)) (k : ByteArray) : Option Value := (l.find? fun p => k == p.1).map (·.2)
def aset (l : List (ByteArray × Value)) (k : ByteArray) (v : Value) : List (ByteArray × Value) := if l.any (fun p => k == p.1) then l.map (fun p => if k == p.1 then (k, v) else p) else l ++ [(k, v)]
def adel (l : List (ByteArray × Value)) (k : ByteArray) : List (ByteArray × Value) := l.filter fun p => !(k == p.1)
def akeys (l : List (ByteArray × Value)) : List ByteArray := l.map (·.1)
/-- Block m is a map of just these pairs. -/
structure MapB (w : World) (m : Nat) (l : List (ByteArray × Value)) : Prop where
  nodup : (akeys l).Nodup
  obj : ∃ es clock, w.heap[m]? = some (.map es clock) ∧ es.toList.map (fun e => (e.key, e.val)) = l.map (fun p => (Value.string p.1, p.2)) ∧ (∀ e ∈ es.toList, e.born < clock) ∧ (es.toList.map (·.born)).Nodup
theorem MapB.of_block {w w' : World} {m : Nat} {l : List (ByteArray × Value)} (h : MapB w m l) (hb : w'.heap[m]? = w.heap[m]?) : MapB w' m l := by
  obtain ⟨h0, es, clock, h1, h2⟩ := h
  exact ⟨h0, es, clock, hb.trans h1, h2⟩
theorem MapB.lt {w : World} {m : Nat} {l : List (ByteArray × Value)} (h : MapB w m l) : m < w.heap.size := by
  obtain ⟨_, es, clock, h1, _⟩ := h
  exact (Array.getElem?_eq_some_iff.1 h1).1
theorem findNow_str (k : ByteArray) : ∀ (es : List MapEntry) (l : List (ByteArray × Value)) (i : Nat), es.map (fun e => (e.key, e.val)) = l.map (fun p => (Value.string p.1, p.2)) →
    Instr.findNow .string (.string k) es i = some ((l.findIdx? (fun p => k == p.1)).bind fun j => (l[j]?).map fun p => (i + j, p.2))
  | [], [], i, _ => by simp [Instr.findNow]
  | [], _ :: _, _, h => by simp at h
  | _ :: _, [], _, h => by simp at h
  | e :: es, p :: l, i, h => by
    simp only [List.map_cons, List.cons.injEq, Prod.mk.injEq] at h
    obtain ⟨⟨h1, h2⟩, h3⟩ := h
    simp only [Instr.findNow, h1, Instr.sameNow, List.findIdx?_cons]
    by_cases hk : k == p.1
    · simp [hk, h2]
    · have ih := findNow_str k es l (i + 1) h3
      simp only [hk, ih, Bool.false_eq_true, if_false]
      cases hf : l.findIdx? (fun p => k == p.1) with
      | none => simp
      | some j => simp [Nat.add_comm 1 j, Nat.add_assoc]
theorem aget_findIdx (l : List (ByteArray × Value)) (k : ByteArray) : ((l.findIdx? (fun p => k == p.1)).bind fun j => (l[j]?).map fun p => p.2) = aget l k := by
  unfold aget
  induction l with
  | nil => rfl
  | cons p l ih =>
    simp only [List.findIdx?_cons, List.find?_cons]
    by_cases hk : k == p.1
    · simp [hk]
    · simp only [hk, Bool.false_eq_true, if_false]
      rw [← ih]
      cases hf : l.findIdx? (fun p => k == p.1) with
      | none => simp
      | some j => simp
section
variable {P : Program} {w : World} {m : Nat} {l : List (ByteArray × Value)} {t kt e : TypeId} {k : ByteArray}
theorem run_findKey_s (hk : P.underlying kt = some .string) {es : Array MapEntry} (h : es.toList.map (fun e => (e.key, e.val)) = l.map (fun p => (Value.string p.1, p.2))) :
    (Instr.findKey kt (.string k) es.toList).run P w = .ok ((l.findIdx? (fun p => k == p.1)).bind fun j => (l[j]?).map fun p => (j, p.2)) w := by
  refine MapKept.run_findKey hk ?_
  rw [findNow_str k es.toList l 0 h]
  simp
theorem isKey_str (k : ByteArray) : MapKept.IsKey .string (.string k) := by simp [MapKept.IsKey]
/-- m[k] -/
theorem run_lookup_s (ht : P.underlying t = some (.map kt e)) (hk : P.underlying kt = some .string) {z : Value} (hz : (zeroValue e).run P w = .ok z w) (h : MapB w m l) (k : ByteArray) :
    (Instr.lookup t (.map (some m)) (.string k) false).run P w = .ok ((aget l k).getD z) w := by
  obtain ⟨_, es, clock, hb, hl, _⟩ := h
  have h1 := run_findKey_s (P := P) (w := w) (k := k) hk hl
  have h2 := MapKept.run_checkKey (P := P) (w := w) hk (isKey_str k) es.isEmpty 9999
  have h3 := aget_findIdx l k
  unfold Instr.lookup
  simp only [Sem.run_bind, run_underlying ht, Result.andThen, MapKept.run_getObj_map hb, Sem.run_pure, h2, h1]
  rw [← h3]
  cases l.findIdx? (fun p => k == p.1) with
  | none => simp [Sem.run_bind, hz, Result.andThen]
  | some j =>
    cases hj : l[j]? with
    | none => simp [hj, Sem.run_bind, hz, Result.andThen]
    | some p => simp [hj]
/-- v, ok := m[k] -/
theorem run_lookup_ok_s (ht : P.underlying t = some (.map kt e)) (hk : P.underlying kt = some .string) {z : Value} (hz : (zeroValue e).run P w = .ok z w) (h : MapB w m l) (k : ByteArray) :
    (Instr.lookup t (.map (some m)) (.string k) true).run P w = .ok (.tuple #[(aget l k).getD z, .bool (aget l k).isSome]) w := by
  obtain ⟨_, es, clock, hb, hl, _⟩ := h
  have h1 := run_findKey_s (P := P) (w := w) (k := k) hk hl
  have h2 := MapKept.run_checkKey (P := P) (w := w) hk (isKey_str k) es.isEmpty 9999
  have h3 := aget_findIdx l k
  unfold Instr.lookup
  simp only [Sem.run_bind, run_underlying ht, Result.andThen, MapKept.run_getObj_map hb, Sem.run_pure, h2, h1]
  rw [← h3]
  cases l.findIdx? (fun p => k == p.1) with
  | none => simp [Sem.run_bind, hz, Result.andThen]
  | some j =>
    cases hj : l[j]? with
    | none => simp [hj, Sem.run_bind, hz, Result.andThen]
    | some p => simp [hj]
theorem findIdx?_any (k : ByteArray) (l : List (ByteArray × Value)) : (l.findIdx? (fun p => k == p.1)).isSome = l.any (fun p => k == p.1) := by
  simp [List.findIdx?_isSome]
theorem modify_map (k : ByteArray) (v : Value) : ∀ (es : List MapEntry) (l : List (ByteArray × Value)) (i : Nat), es.map (fun e => (e.key, e.val)) = l.map (fun p => (Value.string p.1, p.2)) →
    (akeys l).Nodup → l.findIdx? (fun p => k == p.1) = some i → (es.modify i fun e => { e with key := .string k, val := v }).map (fun e => (e.key, e.val)) = (l.map (fun p => if k == p.1 then (k, v) else p)).map (fun p => (Value.string p.1, p.2))
  | [], [], i, _, _, h => by simp at h
  | [], _ :: _, _, h, _, _ => by simp at h
  | _ :: _, [], _, h, _, _ => by simp at h
  | e :: es, p :: l, i, h, hn, hi => by
    have h0 := h
    simp only [List.map_cons, List.cons.injEq, Prod.mk.injEq] at h
    obtain ⟨⟨h1, h2⟩, h3⟩ := h
    simp only [akeys, List.map_cons, List.nodup_cons] at hn
    rw [List.findIdx?_cons] at hi
    by_cases hk : k == p.1
    · simp only [hk, if_true, Option.some.injEq] at hi
      subst hi
      have hke : k = p.1 := by simpa using hk
      simp only [List.modify_zero_cons, List.map_cons, hk, if_true, List.cons.injEq, true_and]
      rw [h3]
      have : l.map (fun p => if k == p.1 then (k, v) else p) = l := by
        conv => rhs; rw [← List.map_id l]
        refine List.map_congr_left (fun q hq => ?_)
        have : ¬ (k == q.1) = true := by
          intro hkq
          have : k = q.1 := by simpa using hkq
          exact hn.1 (by rw [← hke, this]; exact List.mem_map_of_mem hq)
        simp [this]
      rw [this]
    · simp only [hk, Bool.false_eq_true, if_false, Option.map_eq_some_iff] at hi
      obtain ⟨j, hj, rfl⟩ := hi
      have ih := modify_map k v es l j h3 hn.2 hj
      simp only [List.modify_succ_cons, List.map_cons, hk, Bool.false_eq_true, if_false, List.cons.injEq, Prod.mk.injEq]
      exact ⟨⟨h1, h2⟩, ih⟩
theorem sameBits_str (a b : ByteArray) (h : a = b) : Instr.sameBits 10000 (.string a) (.string b) = true := by
  subst h
  unfold Instr.sameBits
  exact beq_self_eq_true a
theorem akeys_set (l : List (ByteArray × Value)) (k : ByteArray) (v : Value) (h : (akeys l).Nodup) : (akeys (aset l k v)).Nodup := by
  unfold aset
  split
  · rename_i ha
    have : akeys (l.map (fun p => if k == p.1 then (k, v) else p)) = akeys l := by
      unfold akeys
      rw [List.map_map]
      refine List.map_congr_left (fun q _ => ?_)
      by_cases hk : k == q.1
      · have : k = q.1 := by simpa using hk
        simp [this]
      · have : ¬ k = q.1 := by simpa using hk
        simp [this]
    rw [this]; exact h
  · rename_i ha
    unfold akeys
    rw [List.map_append, List.nodup_append]
    refine ⟨h, by simp, fun a ha' b hb => ?_⟩
    simp only [List.map_cons, List.map_nil, List.mem_cons, List.not_mem_nil, or_false] at hb
    subst hb
    intro e
    subst e
    obtain ⟨q, hq, rfl⟩ := List.mem_map.1 ha'
    exact ha (by rw [List.any_eq_true]; exact ⟨q, hq, by simp⟩)
/-- m[k] = v -/
theorem run_mapUpdate_s (ht : P.underlying t = some (.map kt e)) (hk : P.underlying kt = some .string) (h : MapB w m l) (k : ByteArray) (v : Value) :
    ∃ w', (Instr.mapUpdate t (.map (some m)) (.string k) v).run P w = .ok () w' ∧ MapB w' m (aset l k v) ∧ w.grownBy w' (some m) ∧ w'.heap.size = w.heap.size ∧ w'.drawn = w.drawn := by
  obtain ⟨hn, es, clock, hb, hl, hbl, hbn⟩ := h
  have hlt := (Array.getElem?_eq_some_iff.1 hb).1
  have h1 := run_findKey_s (P := P) (w := w) (k := k) hk hl
  have h2 := MapKept.run_checkKey (P := P) (w := w) hk (isKey_str k) false 9999
  have hg : ∀ o : Obj, w.grownBy { w with heap := w.heap.setIfInBounds m o } (some m) := fun o =>
    ⟨rfl, rfl, rfl, by simp, fun i hi hne => by simp only; rw [Array.getElem?_setIfInBounds, if_neg (by intro e; exact hne (by rw [e]))]⟩
  have hsz : es.size = l.length := by have := congrArg List.length hl; simpa using this
  cases hf : l.findIdx? (fun p => k == p.1) with
  | some i =>
    have hi := List.findIdx?_eq_some_iff_getElem.1 hf
    obtain ⟨hil, hik, _⟩ := hi
    have hli : l[i]? = some l[i] := List.getElem?_eq_getElem hil
    rw [hf] at h1
    simp only [Option.bind_some, hli, Option.map_some] at h1
    have hie : i < es.size := by omega
    have hei : es[i]? = some es[i] := Array.getElem?_eq_getElem hie
    have hek : es[i].key = .string l[i].1 := by
      have := congrArg (fun x => x[i]?) hl
      simp only [List.getElem?_map, Array.getElem?_toList, hei, hli, Option.map_some, Option.some.injEq, Prod.mk.injEq] at this
      exact this.1
    have hkk : l[i].1 = k := by simpa using (by simpa using hik : k = l[i].1).symm
    refine ⟨{ w with heap := w.heap.setIfInBounds m (.map (es.modify i fun e => { e with key := .string k, val := v }) clock) }, ?_, ⟨akeys_set l k v hn, (es.modify i fun e => { e with key := .string k, val := v }), clock, ?_, ?_, ?_, ?_⟩, hg _, by simp, rfl⟩
    · unfold Instr.mapUpdate
      simp only [Sem.run_bind, run_underlying ht, Result.andThen, MapKept.run_getObj_map hb, h2, h1, hei, Option.map_some, Option.getD_some, hek, hkk, Instr.keyThatStays, sameBits_str k k rfl, if_true, Sem.run_pure, MapKept.run_setObj_map _ hb]
    · simp [hlt]
    · rw [Array.toList_modify, modify_map k v es.toList l i hl hn hf]
      have : l.any (fun p => k == p.1) = true := by rw [← findIdx?_any, hf]; rfl
      simp only [aset, this, if_true]
    · intro x hx
      rw [Array.toList_modify] at hx
      obtain ⟨j, hj⟩ := List.getElem?_of_mem hx
      rw [List.getElem?_modify] at hj
      obtain ⟨y, hy, hxy⟩ := Option.map_eq_some_iff.1 hj
      have := hbl y (List.mem_of_getElem? hy)
      rw [← hxy]
      split <;> exact this
    · have : ((es.modify i fun e => { e with key := .string k, val := v }).toList.map (·.born)) = es.toList.map (·.born) := by
        rw [Array.toList_modify]
        refine List.ext_getElem? (fun j => ?_)
        rw [List.getElem?_map, List.getElem?_map, List.getElem?_modify]
        cases es.toList[j]? with
        | none => rfl
        | some y =>
          show Option.map _ (some _) = _
          simp only [Option.map_some]
          split <;> rfl
      rw [this]; exact hbn
  | none =>
    rw [hf] at h1
    simp only [Option.bind_none] at h1
    refine ⟨{ w with heap := w.heap.setIfInBounds m (.map (es.push { key := .string k, val := v, born := clock }) (clock + 1)) }, ?_, ⟨akeys_set l k v hn, es.push { key := .string k, val := v, born := clock }, clock + 1, ?_, ?_, ?_, ?_⟩, hg _, by simp, rfl⟩
    · unfold Instr.mapUpdate
      simp only [Sem.run_bind, run_underlying ht, Result.andThen, MapKept.run_getObj_map hb, h2, h1, MapKept.run_setObj_map _ hb]
    · simp [hlt]
    · have : l.any (fun p => k == p.1) = false := by rw [← findIdx?_any, hf]; rfl
      simp [aset, this, hl]
    · intro x hx
      simp only [Array.toList_push, List.mem_append, List.mem_cons, List.not_mem_nil, or_false] at hx
      rcases hx with hx | rfl
      · have := hbl x hx; omega
      · simp
    · simp only [Array.toList_push, List.map_append, List.map_cons, List.map_nil, List.nodup_append]
      refine ⟨hbn, by simp, fun a ha b hb' => ?_⟩
      simp only [List.mem_cons, List.not_mem_nil, or_false] at hb'
      subst hb'
      obtain ⟨y, hy, rfl⟩ := List.mem_map.1 ha
      have := hbl y hy
      omega
theorem eraseIdx_map' {α β : Type} (f : α → β) : ∀ (l : List α) (i : Nat), (l.eraseIdx i).map f = (l.map f).eraseIdx i
  | [], _ => rfl
  | _ :: _, 0 => rfl
  | a :: l, i + 1 => by simp [eraseIdx_map' f l i]
theorem eraseIdx_filter (k : ByteArray) : ∀ (l : List (ByteArray × Value)) (i : Nat), (akeys l).Nodup → l.findIdx? (fun p => k == p.1) = some i → l.eraseIdx i = adel l k
  | [], i, _, h => by simp at h
  | p :: l, i, hn, hi => by
    simp only [akeys, List.map_cons, List.nodup_cons] at hn
    rw [List.findIdx?_cons] at hi
    unfold adel
    by_cases hk : k == p.1
    · simp only [hk, if_true, Option.some.injEq] at hi
      subst hi
      have hke : k = p.1 := by simpa using hk
      simp only [List.eraseIdx_cons_zero, List.filter_cons, hk, Bool.not_true, Bool.false_eq_true, if_false]
      refine (List.filter_eq_self.2 (fun q hq => ?_)).symm
      have : ¬ k = q.1 := fun hkq => hn.1 (by rw [← hke, hkq]; exact List.mem_map_of_mem hq)
      simp [this]
    · simp only [hk, Bool.false_eq_true, if_false, Option.map_eq_some_iff] at hi
      obtain ⟨j, hj, rfl⟩ := hi
      have ih := eraseIdx_filter k l j hn.2 hj
      simp only [List.eraseIdx_cons_succ, List.filter_cons, hk, Bool.not_false, if_true]
      rw [ih]; rfl
theorem adel_none (k : ByteArray) (l : List (ByteArray × Value)) (h : l.findIdx? (fun p => k == p.1) = none) : adel l k = l := by
  unfold adel
  refine List.filter_eq_self.2 (fun q hq => ?_)
  have := (List.findIdx?_eq_none_iff.1 h) q hq
  simp [this]
theorem akeys_del (l : List (ByteArray × Value)) (k : ByteArray) (h : (akeys l).Nodup) : (akeys (adel l k)).Nodup := by
  unfold akeys adel
  exact h.sublist (List.filter_sublist.map _)
/-- delete(m, k) -/
theorem run_delete_s (ht : P.underlying t = some (.map kt e)) (hk : P.underlying kt = some .string) (h : MapB w m l) (k : ByteArray) (u ty : TypeId) :
    ∃ w', (Builtin.delete_ #[t, u] ty #[.map (some m), .string k]).run P w = .ok (.tuple #[]) w' ∧ MapB w' m (adel l k) ∧ w.grownBy w' (some m) ∧ w'.heap.size = w.heap.size ∧ w'.drawn = w.drawn := by
  obtain ⟨hn, es, clock, hb, hl, hbl, hbn⟩ := h
  have hlt := (Array.getElem?_eq_some_iff.1 hb).1
  have h1 := run_findKey_s (P := P) (w := w) (k := k) hk hl
  have h2 := MapKept.run_checkKey (P := P) (w := w) hk (isKey_str k) es.isEmpty 9999
  have hg : ∀ o : Obj, w.grownBy { w with heap := w.heap.setIfInBounds m o } (some m) := fun o =>
    ⟨rfl, rfl, rfl, by simp, fun i hi hne => by simp only; rw [Array.getElem?_setIfInBounds, if_neg (by intro e; exact hne (by rw [e]))]⟩
  have hsz : es.size = l.length := by have := congrArg List.length hl; simpa using this
  cases hf : l.findIdx? (fun p => k == p.1) with
  | some i =>
    obtain ⟨hil, hik, _⟩ := List.findIdx?_eq_some_iff_getElem.1 hf
    have hli : l[i]? = some l[i] := List.getElem?_eq_getElem hil
    rw [hf] at h1
    simp only [Option.bind_some, hli, Option.map_some] at h1
    refine ⟨{ w with heap := w.heap.setIfInBounds m (.map (es.eraseIdxIfInBounds i) clock) }, ?_, ⟨akeys_del l k hn, es.eraseIdxIfInBounds i, clock, ?_, ?_, ?_, ?_⟩, hg _, by simp, rfl⟩
    · unfold Builtin.delete_
      simp [Sem.run_bind, run_underlying ht, Result.andThen, MapKept.run_getObj_map hb, h2, h1, MapKept.run_setObj_map _ hb]
    · simp [hlt]
    · rw [Array.toList_eraseIdxIfInBounds, ← eraseIdx_filter k l i hn hf, eraseIdx_map', hl, eraseIdx_map']
    · intro x hx
      rw [Array.toList_eraseIdxIfInBounds] at hx
      exact hbl x (List.mem_of_mem_eraseIdx hx)
    · rw [Array.toList_eraseIdxIfInBounds, eraseIdx_map']
      exact hbn.sublist (List.eraseIdx_sublist _ _)
  | none =>
    rw [hf] at h1
    simp only [Option.bind_none] at h1
    refine ⟨{ w with heap := w.heap.setIfInBounds m (.map es clock) }, ?_, ⟨akeys_del l k hn, es, clock, ?_, ?_, hbl, hbn⟩, hg _, by simp, rfl⟩
    · unfold Builtin.delete_
      simp [Sem.run_bind, run_underlying ht, Result.andThen, MapKept.run_getObj_map hb, h2, h1, MapKept.run_setObj_map _ hb]
    · simp [hlt]
    · rw [adel_none k l hf]; exact hl
/-- len(m) -/
theorem run_len_s (ht : P.underlying t = some (.map kt e)) (h : MapB w m l) (ty : TypeId) : (Builtin.len_ #[t] ty #[.map (some m)]).run P w = .ok (.int .i64 (l.length : Int)) w := by
  obtain ⟨hn, es, clock, hb, hl, _⟩ := h
  have hsz : es.size = l.length := by have := congrArg List.length hl; simpa using this
  simp [Builtin.len_, run_underlying ht, MapKept.run_getObj_map hb, goInt, hsz]
structure IterB (w : World) (r m : Nat) (l : List (ByteArray × Value)) (done : List ByteArray) : Prop where
  map : MapB w m l
  nodup : done.Nodup
  mem : ∀ k ∈ done, k ∈ akeys l
  obj : ∃ es clock seen c0, w.heap[m]? = some (.map es clock) ∧ es.toList.map (fun e => (e.key, e.val)) = l.map (fun p => (Value.string p.1, p.2)) ∧ (∀ e ∈ es.toList, e.born < clock) ∧ (es.toList.map (·.born)).Nodup ∧
    w.heap[r]? = some (.mapIter (some m) clock seen c0) ∧ clock ≤ c0 ∧ (∀ e ∈ es.toList, seen.contains e.born = true ↔ ∃ k ∈ done, e.key = .string k)
theorem IterB.of_blocks {w w' : World} {r m : Nat} {l : List (ByteArray × Value)} {done : List ByteArray} (h : IterB w r m l done) (hm : w'.heap[m]? = w.heap[m]?) (hr : w'.heap[r]? = w.heap[r]?) : IterB w' r m l done := by
  obtain ⟨h0, h1, h2, es, clock, seen, c0, h3, h4, h5, h6, h7, h8⟩ := h
  exact ⟨h0.of_block hm, h1, h2, es, clock, seen, c0, hm.trans h3, h4, h5, h6, hr.trans h7, h8⟩
theorem IterB.lt {w : World} {r m : Nat} {l : List (ByteArray × Value)} {done : List ByteArray} (h : IterB w r m l done) : r < w.heap.size := by
  obtain ⟨_, _, _, es, clock, seen, c0, _, _, _, _, h7, _⟩ := h
  exact (Array.getElem?_eq_some_iff.1 h7).1
theorem IterB.ne {w : World} {r m : Nat} {l : List (ByteArray × Value)} {done : List ByteArray} (h : IterB w r m l done) : r ≠ m := by
  obtain ⟨_, _, _, es, clock, seen, c0, h3, _, _, _, h7, _⟩ := h
  intro e; subst e; rw [h3] at h7; cases h7
/-- range m -/
theorem run_range_s (ht : P.underlying t = some (.map kt e)) (h : MapB w m l) :
    ∃ o, (Instr.range t (.map (some m))).run P w = .ok (.pointer (some ⟨w.heap.size, 0, none⟩)) (w.alloc o) ∧ IterB (w.alloc o) w.heap.size m l [] := by
  have hlt := h.lt
  obtain ⟨hn, es, clock, hb, hl, hbl, hbn⟩ := h
  have hb' : ∀ o, (w.alloc o).heap[m]? = some (.map es clock) := fun o => (Below.heap_alloc w o m hlt).trans hb
  refine ⟨.mapIter (some m) clock #[] clock, ?_, ⟨⟨hn, es, clock, hb' _, hl, hbl, hbn⟩, List.nodup_nil, by simp, es, clock, #[], clock, hb' _, hl, hbl, hbn, heap_alloc_new w _, Nat.le_refl _, by simp⟩⟩
  simp [Instr.range, run_underlying ht, Sem.run_bind, Result.andThen, MapKept.run_getObj_map hb]
theorem leftOf_mem {es : Array MapEntry} {seen : Array Nat} {e : MapEntry} : e ∈ (leftOf es seen).toList ↔ e ∈ es.toList ∧ seen.contains e.born = false := by
  unfold leftOf; simp
/-- next: nothing is left, or one more comes. -/
theorem run_next_s {r : Nat} {done : List ByteArray} (h : IterB w r m l done) (ty : TypeId) :
    ((∀ p ∈ l, p.1 ∈ done) ∧ (Instr.next (.pointer (some ⟨r, 0, none⟩)) false ty).run P w = .ok (.tuple #[.bool false]) w) ∨
    ∃ k v w', (k, v) ∈ l ∧ k ∉ done ∧ (Instr.next (.pointer (some ⟨r, 0, none⟩)) false ty).run P w = .ok (.tuple #[.bool true, .string k, v]) w' ∧ IterB w' r m l (k :: done) ∧ w.grownBy w' (some r) ∧ w'.heap.size = w.heap.size ∧
      (Instr.entry (.pointer (some ⟨r, 0, none⟩))).run P w' = .ok (.tuple #[.string k, v]) w' := by
  have hne := h.ne
  have hlt := h.lt
  obtain ⟨h0, h1, h2, es, clock, seen, c0, h3, h4, h5, h6, h7, h8, h9⟩ := h
  have hn := h0.nodup
  have hent : ∀ x ∈ es.toList, ∃ p ∈ l, x.key = .string p.1 ∧ x.val = p.2 := fun x hx => by
    have : (x.key, x.val) ∈ es.toList.map (fun e => (e.key, e.val)) := List.mem_map.2 ⟨x, hx, rfl⟩
    rw [h4] at this
    obtain ⟨p, hp, he⟩ := List.mem_map.1 this
    simp only [Prod.mk.injEq] at he
    exact ⟨p, hp, he.1.symm, he.2.symm⟩
  have hent' : ∀ p ∈ l, ∃ x ∈ es.toList, x.key = .string p.1 ∧ x.val = p.2 := fun p hp => by
    have : (Value.string p.1, p.2) ∈ l.map (fun p => (Value.string p.1, p.2)) := List.mem_map.2 ⟨p, hp, rfl⟩
    rw [← h4] at this
    obtain ⟨x, hx, he⟩ := List.mem_map.1 this
    simp only [Prod.mk.injEq] at he
    exact ⟨x, hx, he.1, he.2⟩
  rcases run_next_at (P := P) w ty r m clock c0 seen es clock h7 h3 h5 h8 with ⟨hs, hrun⟩ | ⟨e, he, w1, hw1, hrun⟩
  · refine .inl ⟨fun p hp => ?_, hrun⟩
    obtain ⟨x, hx, hxk, _⟩ := hent' p hp
    by_cases hseen : seen.contains x.born = true
    · obtain ⟨k, hk, hkk⟩ := (h9 x hx).1 hseen
      rw [hxk] at hkk
      injection hkk with hkk
      rw [hkk]; exact hk
    · exfalso
      have : x ∈ (leftOf es seen).toList := leftOf_mem.2 ⟨hx, by simpa using hseen⟩
      have := List.length_pos_of_mem this
      simp at this
      omega
  · obtain ⟨hx, hseen⟩ := leftOf_mem.1 he
    obtain ⟨p, hp, hpk, hpv⟩ := hent e hx
    rw [hpk, hpv] at hrun
    have hnd : p.1 ∉ done := fun hin => by
      have := (h9 e hx).2 ⟨p.1, hin, hpk⟩
      rw [hseen] at this; cases this
    have hw1h : w1.heap = w.heap := by rcases hw1 with rfl | rfl <;> rfl
    have hw1s : w1.os = w.os ∧ w1.tape = w.tape ∧ w1.output = w.output := by rcases hw1 with rfl | rfl <;> exact ⟨rfl, rfl, rfl⟩
    have hm' : ∀ o, (setBlock w1 r o).heap[m]? = w.heap[m]? := fun o => by
      show (w1.heap.setIfInBounds r o)[m]? = _
      rw [Array.getElem?_setIfInBounds, if_neg hne, hw1h]
    have hr' : ∀ o, (setBlock w1 r o).heap[r]? = some o := fun o => by
      show (w1.heap.setIfInBounds r o)[r]? = _
      rw [hw1h]; simp [hlt]
    refine .inr ⟨p.1, p.2, _, hp, hnd, hrun, ⟨h0.of_block (hm' _), List.nodup_cons.2 ⟨hnd, h1⟩, fun k hk => ?_, es, clock, seen.push e.born, clock, (hm' _).trans h3, h4, h5, h6, hr' _, Nat.le_refl _, fun x hx' => ?_⟩, ⟨hw1s.1, hw1s.2.1, hw1s.2.2, by show w.heap.size ≤ (w1.heap.setIfInBounds r _).size; rw [hw1h]; simp, fun i hi hne' => ?_⟩, by show (w1.heap.setIfInBounds r _).size = _; rw [hw1h]; simp, ?_⟩
    · rcases List.mem_cons.1 hk with rfl | hk
      · exact List.mem_map_of_mem hp
      · exact h2 k hk
    · rw [Array.contains_push, Bool.or_eq_true, h9 x hx']
      constructor
      · rintro (⟨k, hk, hkk⟩ | hb)
        · exact ⟨k, List.mem_cons_of_mem _ hk, hkk⟩
        · have : x.born = e.born := by simpa using hb
          have hxe : x = e := by
            have := find_born x es.toList h6 hx'
            have h2' := find_born e es.toList h6 hx
            rw [‹x.born = e.born›] at this
            rw [this] at h2'
            exact Option.some.inj h2'
          exact ⟨p.1, List.mem_cons_self, by rw [hxe]; exact hpk⟩
      · rintro ⟨k, hk, hkk⟩
        rcases List.mem_cons.1 hk with rfl | hk
        · right
          have hxe : x.born = e.born := by
            -- the keys differ from entry to entry
            have hkn : (es.toList.map (·.key)).Nodup := by
              have : es.toList.map (·.key) = (akeys l).map Value.string := by
                have := congrArg (List.map Prod.fst) h4
                simpa [akeys, List.map_map, Function.comp_def] using this
              rw [this]
              refine List.pairwise_map.2 (hn.imp (fun hne' he' => hne' ?_))
              injection he'
            have hall : ∀ (L : List MapEntry), (L.map (·.key)).Nodup → ∀ a ∈ L, ∀ b ∈ L, a.key = b.key → a = b := by
              intro L
              induction L with
              | nil => intro _ a ha; cases ha
              | cons z L ih =>
                intro hL a ha b hb hab
                simp only [List.map_cons, List.nodup_cons] at hL
                rcases List.mem_cons.1 ha with ea | ea
                · rcases List.mem_cons.1 hb with eb | eb
                  · rw [ea, eb]
                  · exact absurd (List.mem_map.2 ⟨b, eb, by rw [← hab, ea]⟩) hL.1
                · rcases List.mem_cons.1 hb with eb | eb
                  · exact absurd (List.mem_map.2 ⟨a, ea, by rw [hab, eb]⟩) hL.1
                  · exact ih hL.2 a ea b eb hab
            rw [hall es.toList hkn x hx' e hx (hkk.trans hpk.symm)]
          simp [hxe]
        · exact .inl ⟨k, hk, hkk⟩
    · show (w1.heap.setIfInBounds r _)[i]? = _
      rw [Array.getElem?_setIfInBounds, if_neg (fun e' => hne' (by rw [e'])), hw1h]
    · have := run_entry_at (P := P) (setBlock w1 r (.mapIter (some m) clock (seen.push e.born) clock)) r m clock seen es clock e (hr' _) ((hm' _).trans h3) hx h6
      rw [hpk, hpv] at this
      exact this
theorem wpList_mapUpdate_s {ops : Array Oper} {rest : List Oper} {o : Oper} {a : Act} {Q : Exit → Act → World → Prop}
    (hg : o.guard = none) (x y v : Operand) (t : TypeId) (hop : o.op = Op.mapUpdate t x y v) (ht : P.underlying t = some (.map kt e)) (hk : P.underlying kt = some .string)
    (hx : a.eval x = .map (some m)) (h : MapB w m l) (key : ByteArray) (hy : a.eval y = .string key) (val : Value) (hv : a.eval v = val)
    (hK : ∀ w', MapB w' m (aset l key val) → w.grownBy w' (some m) → w'.heap.size = w.heap.size → wpList P ops Q rest (a.put o.dst undef) w') :
    wpList P ops Q (o :: rest) a w := by
  refine wpList_plain hg fun K' hK' => ?_
  obtain ⟨w', hrun, r1, r2, r3, _⟩ := run_mapUpdate_s (P := P) ht hk h key val
  unfold Oper.wp
  simp [execOp, hop, hx, hy, hv, hrun, Result.andThen]
  exact hK' _ _ (hK w' r1 r2 r3)
theorem MapB.ne_cells {w : World} {m b : Nat} {l : List (ByteArray × Value)} (h : MapB w m l) {cs : Array Value} {t : TypeId} {fr : Nat × Nat} (hb : w.heap[b]? = some (.cells cs t fr)) : b ≠ m := by
  obtain ⟨_, es, clock, h1, _⟩ := h
  intro e; subst e; rw [h1] at hb; cases hb
theorem MapB.keeps {w w' : World} {m : Nat} {l : List (ByteArray × Value)} {S : Nat → Prop} (h : MapB w m l) (hk : Keeps S w w') (hn : ¬ S m) : MapB w' m l := h.of_block (hk.block m h.lt hn)
end
end Go.Proofs.YtmjhflmkgmfjkaaGreatDoor
namespace Go.Proofs.YtmjhflmkgmfjkaaGreatDoor
open Go.RowKit
def growsOf (len : Nat) (s : Int) : Int := if (len : Int) < s * 8 then 0 else allB ((s + 1) * 512) - allB (s * 512)
theorem grows_calls (b m : Nat) (dv : Value) (s : Int) (l : List (ByteArray × Value)) (w : World) (hn : NodeB w b true dv (.map (some m)) s) (hm : MapB w m l) (h0 : 0 ≤ s) (h1 : s ≤ 300) (hl : l.length ≤ 100000) :
    Calls Tryz.prog 66 #[.pointer (some ⟨b, 0, none⟩)] w fun e w' => e = .returned (.int .i64 (growsOf l.length s)) ∧ ∃ n, w' = w.drewN n := by
  obtain ⟨c0, c1, c2, c3⟩ := hn.cells
  have hlen := fun nq : Nat => run_len_s (P := Tryz.prog) (w := w.drewN nq) Tryz.underlying83 (hm.of_block rfl) 3
  have hB : ∀ nq, NodeB (w.drewN nq) b true dv (.map (some m)) s := fun _ => hn
  have ha := allB_bd ((s + 1) * 512) (by omega) (by omega)
  have hb := allB_bd (s * 512) (by omega) (by omega)
  have e1 : IntKind.i64.wrap (s * 8) = s * 8 := IntWalk.i64_in _ (by omega)
  by_cases hc : (l.length : Int) < s * 8
  · have hcd : decide ((l.length : Int) < s * 8) = true := decide_eq_true hc
    have hf : growsOf l.length s = 0 := if_pos hc
    go_enter Tryz.func66, Tryz.ntmps66
    go_wp2
    go_quiet (fail)
    go_wp2
    go_ret
    exact ⟨ret_i hf.symm, _, rfl⟩
  · have hcd : decide ((l.length : Int) < s * 8) = false := decide_eq_false hc
    have hf : growsOf l.length s = allB ((s + 1) * 512) - allB (s * 512) := if_neg hc
    go_enter Tryz.func66, Tryz.ntmps66
    go_wp2
    go_quiet (fail)
    go_wp2_with (first | (go_at_call 70; refine (all_calls _ _ (by omega) (by omega)).mono ?_; rintro e w' ⟨rfl, rfl⟩) | (go_at_call 71; refine (nblocks_dir b _ _ _ _ (hB _) (by omega) (by omega)).mono ?_; rintro e w' ⟨rfl, rfl⟩))
    go_ret
    exact ⟨ret_i hf.symm, _, rfl⟩
def putSlots (len : Nat) (s : Int) : Int := if 0 < growsOf len s then s + 1 else s
theorem NodeB.ne {w : World} {b m : Nat} {dir : Bool} {dv kv : Value} {s : Int} {l : List (ByteArray × Value)} (h : NodeB w b dir dv kv s) (hm : MapB w m l) : b ≠ m := hm.ne_cells h
theorem NodeB.keeps {w w' : World} {S : Nat → Prop} {b : Nat} {dir : Bool} {dv kv : Value} {s : Int} (h : NodeB w b dir dv kv s) (hk : Keeps S w w') (hn : ¬ S b) : NodeB w' b dir dv kv s := hk.blk h hn
theorem NodeB.set3 {w : World} {b : Nat} {dir : Bool} {dv kv : Value} {s : Int} (h : NodeB w b dir dv kv s) (s' : Int) : NodeB (w.setCell ⟨b, 3, none⟩ (.int .i64 s')) b dir dv kv s' := by
  unfold NodeB at *
  simp [World.setCell, Array.getElem?_modify, h]
/-- n.put(name, k) -/
theorem put_calls (b m : Nat) (dv : Value) (s : Int) (l : List (ByteArray × Value)) (k : ByteArray) (v : Option Addr) (w : World) (hn : NodeB w b true dv (.map (some m)) s) (hm : MapB w m l) (h0 : 0 ≤ s) (h1 : s ≤ 300) (hl : l.length ≤ 100000) :
    Calls Tryz.prog 68 #[.pointer (some ⟨b, 0, none⟩), .string k, .pointer v] w fun e w' => e = .returned (.tuple #[]) ∧ NodeB w' b true dv (.map (some m)) (putSlots l.length s) ∧ MapB w' m (aset l k (.pointer v)) ∧ Keeps (fun i => i = b ∨ i = m) w w' ∧ w'.heap.size = w.heap.size := by
  have hB : ∀ nq, NodeB (w.drewN nq) b true dv (.map (some m)) s := fun _ => hn
  have hM : ∀ nq, MapB (w.drewN nq) m l := fun _ => hm.of_block rfl
  have hne := hn.ne hm
  obtain ⟨c0, c1, c2, c3⟩ := hn.cells
  have f3 := hn.frozen 3
  by_cases hc : 0 < growsOf l.length s
  · have hcd : decide (0 < growsOf l.length s) = true := decide_eq_true hc
    have HS : Hid (putSlots l.length s = s + 1) := Lib.hid (if_pos hc)
    go_enter Tryz.func68, Tryz.ntmps68
    go_wp2_with (first
      | (go_at_call 66; refine (grows_calls b m dv s l _ hn hm h0 h1 hl).mono ?_; rintro e w' ⟨rfl, n1, rfl⟩)
      | (at_mapUpdate; refine wpList_mapUpdate_s rfl _ _ _ 83 rfl Tryz.underlying83 Tryz.underlying9 rfl (l := l) (by exact hm.of_block (Below.heap_setCell _ _ _ _ (fun e => hne e.symm))) k rfl _ rfl ?_; intro w1 hm1 hg1 hs1))
    go_end0
    have hk1 := (((Keeps.refl (fun i => i = b ∨ i = m) w).drewN n1).setCell (p := ⟨b, 3, none⟩) (.inl (.inl rfl)) (.int .i64 (s + 1))).grown hg1 (fun j hj => by cases hj; exact .inl (.inr rfl))
    exact ⟨rfl, HS.out.symm ▸ (NodeB.set3 (w := w.drewN n1) hn (s + 1)).keeps (Keeps.of_grown hg1) (fun e => hne (Option.some.inj e).symm), hm1, hk1, by simpa using hs1⟩
  · have hcd : decide (0 < growsOf l.length s) = false := decide_eq_false hc
    have HS : Hid (putSlots l.length s = s) := Lib.hid (if_neg hc)
    go_enter Tryz.func68, Tryz.ntmps68
    go_wp2_with (first
      | (go_at_call 66; refine (grows_calls b m dv s l _ hn hm h0 h1 hl).mono ?_; rintro e w' ⟨rfl, n1, rfl⟩)
      | (at_mapUpdate; refine wpList_mapUpdate_s rfl _ _ _ 83 rfl Tryz.underlying83 Tryz.underlying9 rfl (l := l) (by exact hm.of_block rfl) k rfl _ rfl ?_; intro w1 hm1 hg1 hs1))
    go_end0
    have hk1 := ((Keeps.refl (fun i => i = b ∨ i = m) w).drewN n1).grown hg1 (fun j hj => by cases hj; exact .inl (.inr rfl))
    exact ⟨rfl, HS.out.symm ▸ NodeB.keeps (w := w.drewN n1) hn (Keeps.of_grown hg1) (fun e => hne (Option.some.inj e).symm), hm1, hk1, by simpa using hs1⟩
/-- A Tree's own block. -/
def TreeB (w : World) (t r : Nat) (bl ino : Int) : Prop := w.heap[t]? = some (.cells #[.pointer (some ⟨r, 0, none⟩), .int .i64 bl, .int .i64 ino] 55 (0, 0))
theorem TreeB.cells {w : World} {t r : Nat} {bl ino : Int} (h : TreeB w t r bl ino) : w.cell? ⟨t, 0, none⟩ = some (.pointer (some ⟨r, 0, none⟩)) ∧ w.cell? ⟨t, 1, none⟩ = some (.int .i64 bl) ∧ w.cell? ⟨t, 2, none⟩ = some (.int .i64 ino) := by
  unfold TreeB at h
  simp [World.cell?, h]
theorem TreeB.frozen {w : World} {t r : Nat} {bl ino : Int} (h : TreeB w t r bl ino) (o : Nat) : w.frozen? ⟨t, o, none⟩ = false := by
  unfold TreeB at h
  simp [World.frozen?, h]
theorem TreeB.keeps {w w' : World} {S : Nat → Prop} {t r : Nat} {bl ino : Int} (h : TreeB w t r bl ino) (hk : Keeps S w w') (hn : ¬ S t) : TreeB w' t r bl ino := hk.blk h hn
theorem TreeB.set1 {w : World} {t r : Nat} {bl ino : Int} (h : TreeB w t r bl ino) (x : Int) : TreeB (w.setCell ⟨t, 1, none⟩ (.int .i64 x)) t r x ino := by
  unfold TreeB at *
  simp [World.setCell, Array.getElem?_modify, h]
theorem TreeB.set2 {w : World} {t r : Nat} {bl ino : Int} (h : TreeB w t r bl ino) (x : Int) : TreeB (w.setCell ⟨t, 2, none⟩ (.int .i64 x)) t r bl x := by
  unfold TreeB at *
  simp [World.setCell, Array.getElem?_modify, h]
theorem TreeB.ne_node {w : World} {t r b : Nat} {bl ino : Int} {dir : Bool} {dv kv : Value} {s : Int} (h : TreeB w t r bl ino) (hn : NodeB w b dir dv kv s) : t ≠ b := by
  intro e; subst e; unfold TreeB at h; unfold NodeB at hn; rw [h] at hn; cases hn
/-- t.give(n): what n takes is nb. -/
theorem give_calls (t r b : Nat) (bl ino nb : Int) (w : World) (ht : TreeB w t r bl ino) (hnb : ∀ w', w'.heap = w.heap → Calls Tryz.prog 71 #[.pointer (some ⟨b, 0, none⟩)] w' fun e w'' => e = .returned (.int .i64 nb) ∧ w' = w'')
    (h0 : -100000000 ≤ bl) (h1 : bl ≤ 100000000) (h2 : -100000000 ≤ ino) (h3 : ino ≤ 100000000) (h4 : 0 ≤ nb) (h5 : nb ≤ 100000) :
    Calls Tryz.prog 76 #[.pointer (some ⟨t, 0, none⟩), .pointer (some ⟨b, 0, none⟩)] w fun e w' => e = .returned (.tuple #[]) ∧ TreeB w' t r (bl + nb) (ino + 1) ∧ Keeps (fun i => i = t) w w' ∧ w'.heap.size = w.heap.size := by
  obtain ⟨c0, c1, c2⟩ := ht.cells
  have f1 := ht.frozen 1
  have f2 := ht.frozen 2
  go_enter Tryz.func76, Tryz.ntmps76
  go_wp2
  go_region_with (first | (go_at_call 71; refine (hnb _ (by rfl)).mono ?_; rintro e w' ⟨rfl, rfl⟩))
  all_goals
    go_wp2
    go_end0
    exact ⟨rfl, (TreeB.set1 (w := w) ht _).set2 _, (((Keeps.refl (fun i => i = t) w).setCell (p := ⟨t, 1, none⟩) (.inl rfl) _).setCell (p := ⟨t, 2, none⟩) (.inl rfl) _).drew, by simp [World.setCell]⟩
/-- fresh(dir) -/
theorem fresh_file (w : World) : Calls Tryz.prog 19 #[.bool false] w fun e w' => e = .returned (.pointer (some ⟨w.heap.size, 0, none⟩)) ∧ w' = w.alloc (.cells #[.bool false, .slice none 0 0, .map none, .int .i64 0] 85) := by
  go_enter Tryz.func19, Tryz.ntmps19
  go_wp2
  go_ret
  exact ⟨rfl, rfl⟩
theorem fresh_dir (w : World) : Calls Tryz.prog 19 #[.bool true] w fun e w' => e = .returned (.pointer (some ⟨w.heap.size, 0, none⟩)) ∧ w' = (w.alloc (.cells #[.bool true, .slice none 0 0, .map (some (w.heap.size + 1)), .int .i64 0] 85)).alloc (.map #[] 0) := by
  have hmm := @run_makeMap Tryz.prog
  go_enter Tryz.func19, Tryz.ntmps19
  go_wp2
  go_ret
  exact ⟨rfl, rfl⟩
theorem MapB.made (w : World) : MapB (w.alloc (.map #[] 0)) w.heap.size [] :=
  ⟨List.nodup_nil, #[], 0, heap_alloc_new w _, rfl, by simp, by simp⟩
/-- isFile(n) -/
theorem isFile_nil (w : World) : Calls Tryz.prog 31 #[.pointer none] w fun e w' => e = .returned (.int .i64 8) ∧ w = w' := by
  go_enter Tryz.func31, Tryz.ntmps31
  go_wp2
  go_ret
  exact ⟨rfl, rfl⟩
theorem isFile_node (b : Nat) (dir : Bool) (dv kv : Value) (s : Int) (w : World) (hn : NodeB w b dir dv kv s) : Calls Tryz.prog 31 #[.pointer (some ⟨b, 0, none⟩)] w fun e w' => e = .returned (.int .i64 (if dir then 10 else 0)) ∧ w = w' := by
  obtain ⟨c0, c1, c2, c3⟩ := hn.cells
  cases dir
  all_goals
    go_enter Tryz.func31, Tryz.ntmps31
    go_wp2
    go_ret
    exact ⟨rfl, rfl⟩
end Go.Proofs.YtmjhflmkgmfjkaaGreatDoor
namespace Go.Proofs.YtmjhflmkgmfjkaaGreatDoor
open PTreeTwins (S58 S106 S35 z58 z106)
structure RS where
  L : List S58
  bl : Int
  ino : Int
/-- thing number i -/
def at_ (L : List S58) (i : Nat) : S58 := L.getD i z58
def Live (L : List S58) (i : Nat) : Prop := (at_ L i).f0 = true
/-- the entries that are names -/
def named (s : List S106) : List S106 := s.filter fun e => decide (e.f0 ≠ ByteArray.empty)
/-- whose thing an entry is -/
def eix (e : S106) : Nat := (e.f1 - 1).toNat
/-- whose a name is -/
def whose (s : List S106) (n : ByteArray) : Option Nat := ((named s).find? fun e => decide (e.f0 = n)).map eix
/-- a spot: the directory above, the last name, what is there -/
structure Spot where
  up : Option Nat
  name : ByteArray
  n : Option Nat
def Spot.zero : Spot := ⟨none, ByteArray.empty, none⟩
/-- the implementation's way -/
def findL (L : List S58) : List ByteArray → Spot → Spot × Int
  | [], s => (s, 0)
  | n :: l, s => match s.n with
    | none => (Spot.zero, 8)
    | some i => if (at_ L i).f1 = true then findL L l ⟨some i, n, whose (at_ L i).f3 n⟩ else (Spot.zero, 11)
/-- the document's way -/
def walkL (L : List S58) : List ByteArray → Nat → Nat × Int
  | [], i => (i, 0)
  | n :: l, i => if (at_ L i).f1 = true then (match whose (at_ L i).f3 n with
      | none => (0, 8)
      | some j => walkL L l j)
    else (0, 11)
/-- how many blocks of slots -/
def slotsOf (s : List S106) : Int := ((s.length + 7) / 8 : Nat)
/-- What holds of a tree: each entry's thing is there, a directory has no bytes, a file no slots, names differ; 'way' tells each thing's way from the root. -/
structure Good (L : List S58) (way : Nat → List ByteArray) : Prop where
  root : Live L 0 ∧ (at_ L 0).f1 = true ∧ way 0 = []
  kid : ∀ i, Live L i → ∀ e ∈ named (at_ L i).f3, 1 ≤ e.f1 ∧ Live L (eix e) ∧ way (eix e) = way i ++ [e.f0]
  inj : ∀ i j, Live L i → Live L j → way i = way j → i = j
  up : ∀ j, Live L j → j ≠ 0 → ∃ i, Live L i ∧ (at_ L i).f1 = true ∧ ∃ e ∈ named (at_ L i).f3, eix e = j
  names : ∀ i, Live L i → ((named (at_ L i).f3).map (·.f0)).Nodup
  file : ∀ i, Live L i → (at_ L i).f1 = false → (at_ L i).f3 = []
  dirb : ∀ i, Live L i → (at_ L i).f1 = true → (at_ L i).f2 = []
theorem whose_mem {s : List S106} {n : ByteArray} {j : Nat} (h : whose s n = some j) : ∃ e ∈ named s, e.f0 = n ∧ eix e = j := by
  unfold whose at h
  obtain ⟨e, he, rfl⟩ := Option.map_eq_some_iff.1 h
  exact ⟨e, List.mem_of_find?_eq_some he, by simpa using List.find?_some he, rfl⟩
theorem whose_live {L : List S58} {way : Nat → List ByteArray} (hG : Good L way) {i j : Nat} {n : ByteArray} (hi : Live L i) (h : whose (at_ L i).f3 n = some j) : Live L j := by
  obtain ⟨e, he, _, rfl⟩ := whose_mem h
  exact (hG.kid i hi e he).2.1
end Go.Proofs.YtmjhflmkgmfjkaaGreatDoor
namespace Go.Proofs.YtmjhflmkgmfjkaaGreatDoor
open PTreeTwins (S58 S106 S35 z58 z106)
/-- A name's place. -/
def atS (s : List S106) (n : ByteArray) : Option Nat := if n = ByteArray.empty then none else s.findIdx? fun e => decide (e.f0 = n)
/-- the first free slot, or the place behind all -/
def putS (s : List S106) (n : ByteArray) (i : Int) : List S106 := match s.findIdx? (fun e => decide (e.f0 = ByteArray.empty)) with
  | some j => s.set j ⟨n, i⟩
  | none => s ++ [⟨n, i⟩]
def takeS (s : List S106) (n : ByteArray) : List S106 := match atS s n with
  | some j => s.set j z106
  | none => s
def moveS (s : List S106) (o n : ByteArray) : List S106 := match atS s o with
  | some j => s.set j ⟨n, (s.getD j z106).f1⟩
  | none => s
/-- a slot's thing becomes another one -/
def swapS (s : List S106) (n : ByteArray) (i : Int) : List S106 := match atS s n with
  | some j => s.set j ⟨(s.getD j z106).f0, i⟩
  | none => s
def needS (s : List S106) : Int := allB (slotsOf s * 512)
/-- a thing's number, if it is laid now -/
def freshL (L : List S58) : Nat := (L.findIdx? fun x => !x.f0).getD L.length
def placeL (L : List S58) (k : Nat) (x : S58) : List S58 := if k < L.length then L.set k x else L ++ [x]
def setF3 (L : List S58) (i : Nat) (s : List S106) : List S58 := L.set i { at_ L i with f3 := s }
def setF2 (L : List S58) (i : Nat) (b : List Int) : List S58 := L.set i { at_ L i with f2 := b }
/-- the blocks that a thing takes -/
def takes (x : S58) : Int := if x.f1 = true then needS x.f3 else allB x.f2.length
def rMake (r : RS) (l : List ByteArray) (dir : Bool) : RS × Int :=
  if l = [] then (r, 9) else
  match walkL r.L l.dropLast 0 with
  | (a, e) => if e ≠ 0 then (r, e) else
    if (at_ r.L a).f1 = false then (r, 11) else
    if (whose (at_ r.L a).f3 (l.getLastD ByteArray.empty)).isSome then (r, 9) else
    if r.ino = 0 ∨ needS (putS (at_ r.L a).f3 (l.getLastD ByteArray.empty) 1) - needS (at_ r.L a).f3 > r.bl then (r, 7) else
    ({ L := setF3 (placeL r.L (freshL r.L) ⟨true, dir, [], []⟩) a (putS (at_ r.L a).f3 (l.getLastD ByteArray.empty) ((freshL r.L : Int) + 1)),
       bl := r.bl - (needS (putS (at_ r.L a).f3 (l.getLastD ByteArray.empty) 1) - needS (at_ r.L a).f3), ino := r.ino - 1 }, 0)
def rMore (r : RS) (a : Nat) (b : List Int) : RS × Int :=
  if (b.length : Int) > 8458240 - (at_ r.L a).f2.length then (r, 5) else
  if allB ((at_ r.L a).f2.length + b.length) - allB (at_ r.L a).f2.length > r.bl then (r, 7) else
  ({ r with L := setF2 r.L a ((at_ r.L a).f2 ++ b), bl := r.bl - (allB ((at_ r.L a).f2.length + b.length) - allB (at_ r.L a).f2.length) }, 0)
def rAppend (r : RS) (l : List ByteArray) (b : List Int) : RS × Int :=
  match walkL r.L l 0 with
  | (a, e) => if e ≠ 0 then (r, e) else if (at_ r.L a).f1 = true then (r, 10) else rMore r a b
def rCut (r : RS) (l : List ByteArray) (n : Int) : RS × Int :=
  match walkL r.L l 0 with
  | (a, e) => if e ≠ 0 then (r, e) else if (at_ r.L a).f1 = true then (r, 10) else
    if n < 0 ∨ n > (at_ r.L a).f2.length then (r, 1) else
    ({ r with L := setF2 r.L a ((at_ r.L a).f2.take n.toNat), bl := r.bl + allB (at_ r.L a).f2.length - allB n }, 0)
/-- a thing goes -/
def rFree (r : RS) (k : Nat) : RS := { L := r.L.set k z58, bl := r.bl + takes (at_ r.L k), ino := r.ino + 1 }
def rRemove (r : RS) (l : List ByteArray) (dir : Bool) : RS × Int :=
  match walkL r.L l 0 with
  | (k, e) => if e ≠ 0 then (r, e) else
    if dir = true ∧ (at_ r.L k).f1 = false then (r, 11) else
    if dir = false ∧ (at_ r.L k).f1 = true then (r, 10) else
    if dir = true ∧ (l = [] ∨ (named (at_ r.L k).f3) ≠ []) then (r, 13) else
    ({ rFree r k with L := setF3 (rFree r k).L (walkL r.L l.dropLast 0).1 (takeS (at_ (rFree r k).L (walkL r.L l.dropLast 0).1).f3 (l.getLastD ByteArray.empty)) }, 0)
/-- may a thing take another one's place? -/
def rOver (L : List S58) (a b : Nat) : Int :=
  if (at_ L b).f1 = true ∧ (at_ L a).f1 = false then 10 else
  if (at_ L b).f1 = false ∧ (at_ L a).f1 = true then 11 else
  if (at_ L b).f1 = true ∧ named (at_ L b).f3 ≠ [] then 13 else 0
def rRename (r : RS) (l m : List ByteArray) : RS × Int :=
  match walkL r.L l 0 with
  | (k, e) => if e ≠ 0 then (r, e) else
    if l = [] ∨ m = [] then (r, 13) else
    match walkL r.L m.dropLast 0 with
    | (td, e2) => if e2 ≠ 0 then (r, e2) else
      if (at_ r.L td).f1 = false then (r, 11) else
      if l.length < m.length ∧ l <+: m then (r, 13) else
      if l = m then (r, 0) else
      match whose (at_ r.L td).f3 (m.getLastD ByteArray.empty) with
      | some x =>
        if rOver r.L k x ≠ 0 then (r, rOver r.L k x) else
        ({ rFree r x with L := setF3 (setF3 (rFree r x).L td (swapS (at_ (rFree r x).L td).f3 (m.getLastD ByteArray.empty) ((k : Int) + 1))) (walkL r.L l.dropLast 0).1 (takeS (at_ (setF3 (rFree r x).L td (swapS (at_ (rFree r x).L td).f3 (m.getLastD ByteArray.empty) ((k : Int) + 1))) (walkL r.L l.dropLast 0).1).f3 (l.getLastD ByteArray.empty)) }, 0)
      | none =>
        if (walkL r.L l.dropLast 0).1 = td then ({ r with L := setF3 r.L td (moveS (at_ r.L td).f3 (l.getLastD ByteArray.empty) (m.getLastD ByteArray.empty)) }, 0) else
        if needS (putS (at_ r.L td).f3 (m.getLastD ByteArray.empty) ((k : Int) + 1)) - needS (at_ r.L td).f3 > r.bl then (r, 7) else
        ({ r with L := setF3 (setF3 r.L td (putS (at_ r.L td).f3 (m.getLastD ByteArray.empty) ((k : Int) + 1))) (walkL r.L l.dropLast 0).1 (takeS (at_ (setF3 r.L td (putS (at_ r.L td).f3 (m.getLastD ByteArray.empty) ((k : Int) + 1))) (walkL r.L l.dropLast 0).1).f3 (l.getLastD ByteArray.empty)), bl := r.bl - (needS (putS (at_ r.L td).f3 (m.getLastD ByteArray.empty) ((k : Int) + 1)) - needS (at_ r.L td).f3) }, 0)
def nameOk (b : ByteArray) : Bool := b.size != 0 && decide (b.size ≤ 48) && decide (b.data.toList ≠ [46]) && decide (b.data.toList ≠ [46, 46]) && b.data.toList.all fun c => decide (0x21 ≤ c.toNat) && decide (c.toNat ≤ 0x7E) && decide (c.toNat ≠ 47)
/-- bytes cut at each stroke -/
def splitOn : List UInt8 → List (List UInt8)
  | [] => [[]]
  | c :: l => if c = 47 then [] :: splitOn l else match splitOn l with
    | [] => [[c]]
    | h :: t => (c :: h) :: t
def splitP (p : ByteArray) : List ByteArray × Int :=
  if p.size > 256 then ([], 5) else
  match p.data.toList with
  | [] => ([], 12)
  | c :: rest => if c ≠ 47 then ([], 12) else if rest = [] then ([], 0) else
    if ((splitOn rest).map fun x => (⟨x.toArray⟩ : ByteArray)).all nameOk then
      if (splitOn rest).length > 8 then ([], 5) else ((splitOn rest).map fun x => (⟨x.toArray⟩ : ByteArray), 0)
    else ([], 12)
/-- Do -/
def rDo (o : S35) (r : RS) : RS × Int :=
  if o.f0 < 1 ∨ o.f0 > 7 then (r, 1) else
  match splitP o.f1 with
  | (l, e) => if e ≠ 0 then (r, e) else
    if o.f0 = 1 then rMake r l false else
    if o.f0 = 2 then rMake r l true else
    if o.f0 = 3 then rAppend r l o.f3 else
    if o.f0 = 4 then rCut r l o.f4 else
    if o.f0 = 5 then rRemove r l false else
    if o.f0 = 6 then rRemove r l true else
    match splitP o.f2 with
    | (m, e2) => if e2 ≠ 0 then (r, e2) else rRename r l m
end Go.Proofs.YtmjhflmkgmfjkaaGreatDoor
namespace Go.Proofs.YtmjhflmkgmfjkaaGreatDoor
open Go.RowKit Go.Proofs.YtmjhflmkgmfjkaaGreatDoorW.PrintWords Go.Proofs.YtmjhflmkgmfjkaaGreatDoorW.PrintMore
open PTreeTwins (S58 S106 S35 z58 z106)
/-- a node's place, if there is one -/
def ptrO (f : Nat → Nat) (o : Option Nat) : Value := .pointer (o.map fun i => ⟨f i, 0, none⟩)
def entVal (f : Nat → Nat) (e : S106) : ByteArray × Value := (e.f0, .pointer (some ⟨f (eix e), 0, none⟩))
/-- The kids of a directory's node. -/
def KidsAt (w : World) (m : Nat) (s : List S106) (f : Nat → Nat) : Prop := ∃ kv, MapB w m kv ∧ kv.Perm ((named s).map (entVal f))
structure DirAt (w : World) (b m : Nat) (x : S58) (f : Nat → Nat) : Prop where
  node : NodeB w b true (.slice none 0 0) (.map (some m)) (slotsOf x.f3)
  kids : KidsAt w m x.f3 f
def FileAt (w : World) (b : Nat) (x : S58) : Prop := ∃ v, NodeB w b false v (.map none) 0 ∧ (Kd.int .u8).R 5 w 0 (fun _ => True) v x.f2
def NodeAt (w : World) (b m : Nat) (x : S58) (f : Nat → Nat) : Prop := (x.f1 = true → DirAt w b m x f) ∧ (x.f1 = false → FileAt w b x)
/-- Tree t: thing i's node at block f i, its map at block g i. -/
structure ImplAt (w : World) (t : Nat) (f g : Nat → Nat) (r : RS) : Prop where
  tree : TreeB w t (f 0) r.bl r.ino
  node : ∀ i, Live r.L i → NodeAt w (f i) (g i) (at_ r.L i) f
  inj : ∀ i j, Live r.L i → Live r.L j → f i = f j → i = j
  injm : ∀ i j, Live r.L i → Live r.L j → (at_ r.L i).f1 = true → (at_ r.L j).f1 = true → g i = g j → i = j
theorem aget_some {l : List (ByteArray × Value)} (hn : (akeys l).Nodup) {k : ByteArray} {v : Value} : aget l k = some v ↔ (k, v) ∈ l := by
  unfold aget
  induction l with
  | nil => simp
  | cons p l ih =>
    simp only [akeys, List.map_cons, List.nodup_cons] at hn
    rw [List.find?_cons]
    by_cases hk : (k == p.1) = true
    · have hke : k = p.1 := by rw [ba_beq] at hk; simpa using hk
      simp only [hk, Option.map_some, Option.some.injEq, List.mem_cons]
      constructor
      · intro h; left; rw [hke, ← h]
      · rintro (h | h)
        · rw [← h]
        · exact absurd (List.mem_map.2 ⟨_, h, rfl⟩) (by rw [← hke] at hn; exact hn.1)
    · have hke : ¬ k = p.1 := by rw [ba_beq] at hk; simpa using hk
      simp only [hk, List.mem_cons]
      rw [ih hn.2]
      constructor
      · intro h; exact .inr h
      · rintro (h | h)
        · exact absurd (by rw [← h]) hke
        · exact h
theorem aget_perm {l l' : List (ByteArray × Value)} (h : l.Perm l') (hn : (akeys l).Nodup) (k : ByteArray) : aget l k = aget l' k := by
  have hn' : (akeys l').Nodup := (h.map _).nodup_iff.1 hn
  cases hc : aget l k with
  | some v => exact ((aget_some hn').2 (h.mem_iff.1 ((aget_some hn).1 hc))).symm
  | none =>
    cases hd : aget l' k with
    | none => rfl
    | some v =>
      have := (aget_some hn).2 (h.mem_iff.2 ((aget_some hn').1 hd))
      rw [hc] at this; cases this
theorem aget_ents (f : Nat → Nat) (s : List S106) (k : ByteArray) : aget ((named s).map (entVal f)) k = (whose s k).map fun i => .pointer (some ⟨f i, 0, none⟩) := by
  unfold aget whose
  rw [List.find?_map, Option.map_map, Option.map_map]
  have : ((fun p : ByteArray × Value => k == p.1) ∘ entVal f) = fun e : S106 => decide (e.f0 = k) := by
    funext e
    simp only [Function.comp, entVal, ba_beq, eq_comm]
  rw [this]
  rfl
/-- kids[name] -/
theorem KidsAt.get {w : World} {m : Nat} {s : List S106} {f : Nat → Nat} (h : KidsAt w m s f) (k : ByteArray) :
    (Instr.lookup 83 (.map (some m)) (.string k) false).run Tryz.prog w = .ok (ptrO f (whose s k)) w := by
  obtain ⟨kv, hm, hp⟩ := h
  have hz : (zeroValue 52).run Tryz.prog w = .ok (.pointer none) w := by kernel_rfl
  rw [run_lookup_s Tryz.underlying83 Tryz.underlying9 hz hm k, aget_perm hp hm.nodup, aget_ents]
  cases whose s k <;> rfl
theorem KidsAt.of_block {w w' : World} {m : Nat} {s : List S106} {f : Nat → Nat} (h : KidsAt w m s f) (hb : w'.heap[m]? = w.heap[m]?) : KidsAt w' m s f := by
  obtain ⟨kv, hm, hp⟩ := h
  exact ⟨kv, hm.of_block hb, hp⟩
theorem KidsAt.lt {w : World} {m : Nat} {s : List S106} {f : Nat → Nat} (h : KidsAt w m s f) : m < w.heap.size := by
  obtain ⟨kv, hm, hp⟩ := h
  exact hm.lt
theorem KidsAt.below {w w' : World} {m : Nat} {s : List S106} {f : Nat → Nat} (h : KidsAt w m s f) (hb : Below w.heap.size w w') : KidsAt w' m s f := h.of_block (hb.block m h.lt)
theorem NodeB.lt {w : World} {b : Nat} {dir : Bool} {dv kv : Value} {s : Int} (h : NodeB w b dir dv kv s) : b < w.heap.size := (Array.getElem?_eq_some_iff.1 h).1
theorem NodeB.below {w w' : World} {b : Nat} {dir : Bool} {dv kv : Value} {s : Int} (h : NodeB w b dir dv kv s) (hb : Below w.heap.size w w') : NodeB w' b dir dv kv s := (hb.block b h.lt).trans h
theorem TreeB.below {w w' : World} {t r : Nat} {bl ino : Int} (h : TreeB w t r bl ino) (hb : Below w.heap.size w w') : TreeB w' t r bl ino := (hb.block t (Array.getElem?_eq_some_iff.1 h).1).trans h
theorem DirAt.below {w w' : World} {b m : Nat} {x : S58} {f : Nat → Nat} (h : DirAt w b m x f) (hb : Below w.heap.size w w') : DirAt w' b m x f := ⟨h.node.below hb, h.kids.below hb⟩
theorem FileAt.below {w w' : World} {b : Nat} {x : S58} (h : FileAt w b x) (hb : Below w.heap.size w w') : FileAt w' b x := by
  obtain ⟨v, h1, h2⟩ := h
  exact ⟨v, h1.below hb, Kd.R_below h2 hb⟩
theorem NodeAt.below {w w' : World} {b m : Nat} {x : S58} {f : Nat → Nat} (h : NodeAt w b m x f) (hb : Below w.heap.size w w') : NodeAt w' b m x f := ⟨fun e => (h.1 e).below hb, fun e => (h.2 e).below hb⟩
theorem ImplAt.below {w w' : World} {t : Nat} {f g : Nat → Nat} {r : RS} (h : ImplAt w t f g r) (hb : Below w.heap.size w w') : ImplAt w' t f g r := ⟨h.tree.below hb, fun i hi => (h.node i hi).below hb, h.inj, h.injm⟩
/-- A node's first cell. -/
theorem NodeAt.dir {w : World} {b m : Nat} {x : S58} {f : Nat → Nat} (h : NodeAt w b m x f) : w.cell? ⟨b, 0, none⟩ = some (.bool x.f1) := by
  cases hd : x.f1 with
  | true => exact ((h.1 hd).node.cells).1
  | false => obtain ⟨v, hv, _⟩ := h.2 hd; exact hv.cells.1
end Go.Proofs.YtmjhflmkgmfjkaaGreatDoor
namespace Go.Proofs.YtmjhflmkgmfjkaaGreatDoor
open PTreeTwins (S58 S106 S35 z58 z106)
theorem live_lt {L : List S58} {i : Nat} (h : Live L i) : i < L.length := by
  rcases Nat.lt_or_ge i L.length with h1 | h1
  · exact h1
  · unfold Live at_ at h
    rw [List.getD_eq_getElem?_getD, List.getElem?_eq_none h1] at h
    cases h
theorem at_set (L : List S58) (k : Nat) (x : S58) (hk : k < L.length) (i : Nat) : at_ (L.set k x) i = if i = k then x else at_ L i := by
  unfold at_
  simp only [List.getD_eq_getElem?_getD, List.getElem?_set]
  by_cases h : i = k
  · subst h; simp [hk]
  · rw [if_neg (fun e => h e.symm), if_neg h]
theorem at_place (L : List S58) (k : Nat) (x : S58) (hk : k ≤ L.length) (i : Nat) : at_ (placeL L k x) i = if i = k then x else at_ L i := by
  unfold placeL
  split
  · rename_i h; exact at_set L k x h i
  · have : k = L.length := by omega
    subst this
    unfold at_
    simp only [List.getD_eq_getElem?_getD]
    by_cases h : i = L.length
    · subst h; simp
    · rw [if_neg h]
      rcases Nat.lt_or_ge i L.length with h1 | h1
      · rw [List.getElem?_append_left h1]
      · rw [List.getElem?_eq_none (by simp; omega), List.getElem?_eq_none h1]
theorem at_setF3 (L : List S58) (k : Nat) (s : List S106) (hk : k < L.length) (i : Nat) : at_ (setF3 L k s) i = if i = k then { at_ L k with f3 := s } else at_ L i := at_set L k _ hk i
theorem at_setF2 (L : List S58) (k : Nat) (s : List Int) (hk : k < L.length) (i : Nat) : at_ (setF2 L k s) i = if i = k then { at_ L k with f2 := s } else at_ L i := at_set L k _ hk i
theorem placeL_length (L : List S58) (k : Nat) (x : S58) : L.length ≤ (placeL L k x).length ∧ (k ≤ L.length → k < (placeL L k x).length) ∧ (placeL L k x).length ≤ L.length + 1 := by
  unfold placeL
  split
  · simp; omega
  · simp; omega
theorem setF3_length (L : List S58) (k : Nat) (s : List S106) : (setF3 L k s).length = L.length := by simp [setF3]
theorem setF2_length (L : List S58) (k : Nat) (s : List Int) : (setF2 L k s).length = L.length := by simp [setF2]
theorem freshL_le (L : List S58) : freshL L ≤ L.length := by
  unfold freshL
  cases h : L.findIdx? (fun x => !x.f0) with
  | none => simp
  | some i => have := (List.findIdx?_eq_some_iff_getElem.1 h).1; simp; omega
theorem freshL_dead (L : List S58) : ¬ Live L (freshL L) := by
  intro hl
  have hlt := live_lt hl
  unfold freshL at hl hlt
  cases h : L.findIdx? (fun x => !x.f0) with
  | none => rw [h] at hlt; simp at hlt
  | some i =>
    obtain ⟨h1, h2, _⟩ := List.findIdx?_eq_some_iff_getElem.1 h
    rw [h] at hl
    simp only [Option.getD_some, Live, at_, List.getD_eq_getElem?_getD, List.getElem?_eq_getElem h1] at hl
    simp [hl] at h2
theorem named_mem {s : List S106} {e : S106} : e ∈ named s ↔ e ∈ s ∧ e.f0 ≠ ByteArray.empty := by
  unfold named; simp
theorem named_append (a b : List S106) : named (a ++ b) = named a ++ named b := by unfold named; simp
theorem named_cons_named (e : S106) (s : List S106) (h : e.f0 ≠ ByteArray.empty) : named (e :: s) = e :: named s := by unfold named; simp [h]
theorem named_cons_free (e : S106) (s : List S106) (h : e.f0 = ByteArray.empty) : named (e :: s) = named s := by unfold named; simp [h]
theorem named_length_le (s : List S106) : (named s).length ≤ s.length := List.length_filter_le _ _
/-- a free slot taken: one name more -/
theorem named_set_free : ∀ (s : List S106) (j : Nat) (e x : S106), s[j]? = some x → x.f0 = ByteArray.empty → e.f0 ≠ ByteArray.empty → (named (s.set j e)).Perm (e :: named s)
  | [], j, _, _, h, _, _ => by simp at h
  | y :: s, 0, e, x, h, hx, he => by
    simp only [List.getElem?_cons_zero, Option.some.injEq] at h
    subst h
    rw [List.set_cons_zero, named_cons_named _ _ he, named_cons_free _ _ hx]
  | y :: s, j + 1, e, x, h, hx, he => by
    simp only [List.getElem?_cons_succ] at h
    have ih := named_set_free s j e x h hx he
    rw [List.set_cons_succ]
    by_cases hy : y.f0 = ByteArray.empty
    · rw [named_cons_free _ _ hy, named_cons_free _ _ hy]; exact ih
    · rw [named_cons_named _ _ hy, named_cons_named _ _ hy]
      exact (List.Perm.cons y ih).trans (List.Perm.swap e y _)
theorem named_put (s : List S106) (n : ByteArray) (i : Int) (hn : n ≠ ByteArray.empty) : (named (putS s n i)).Perm (⟨n, i⟩ :: named s) := by
  unfold putS
  cases h : s.findIdx? (fun e => decide (e.f0 = ByteArray.empty)) with
  | none =>
    simp only [named_append]
    rw [named_cons_named _ _ hn]
    exact List.perm_append_comm (l₁ := named s) (l₂ := [⟨n, i⟩])
  | some j =>
    obtain ⟨h1, h2, _⟩ := List.findIdx?_eq_some_iff_getElem.1 h
    exact named_set_free s j ⟨n, i⟩ s[j] (List.getElem?_eq_getElem h1) (by simpa using h2) hn
theorem putS_length (s : List S106) (n : ByteArray) (i : Int) : (putS s n i).length = if (named s).length < s.length then s.length else s.length + 1 := by
  unfold putS
  cases h : s.findIdx? (fun e => decide (e.f0 = ByteArray.empty)) with
  | none =>
    have : named s = s := by
      unfold named
      refine List.filter_eq_self.2 (fun e he => ?_)
      have := (List.findIdx?_eq_none_iff.1 h) e he
      simpa using this
    rw [this]; simp
  | some j =>
    obtain ⟨h1, h2, _⟩ := List.findIdx?_eq_some_iff_getElem.1 h
    have hlt : (named s).length < s.length := by
      rcases Nat.lt_or_ge (named s).length s.length with h3 | h3
      · exact h3
      · have heq : named s = s := by
          have := List.filter_sublist (p := fun e : S106 => decide (e.f0 ≠ ByteArray.empty)) (l := s)
          exact this.eq_of_length_le h3
        have hm : s[j] ∈ named s := by rw [heq]; exact List.getElem_mem h1
        have := (named_mem.1 hm).2
        exact absurd (by simpa using h2) this
    simp [hlt]
theorem slots_put (s : List S106) (n : ByteArray) (i : Int) : slotsOf (putS s n i) = if ((named s).length : Int) < slotsOf s * 8 then slotsOf s else slotsOf s + 1 := by
  have := named_length_le s
  unfold slotsOf
  rw [putS_length]
  split <;> split <;> omega
theorem blk_512 (s : Int) (h0 : 0 ≤ s) : blk (s * 512) = s := by unfold blk; omega
theorem innr_mono (a b : Int) (h0 : 0 ≤ a) (h : a ≤ b) : innr a ≤ innr b := by unfold innr; repeat' split <;> omega
theorem allB_lt (s : Int) (h0 : 0 ≤ s) : allB (s * 512) < allB ((s + 1) * 512) := by
  unfold allB
  rw [blk_512 s h0, blk_512 (s + 1) (by omega)]
  have := innr_mono s (s + 1) h0 (by omega)
  omega
theorem slotsOf_nonneg (s : List S106) : 0 ≤ slotsOf s := by unfold slotsOf; omega
theorem grows_put (s : List S106) (n : ByteArray) (i : Int) : needS (putS s n i) - needS s = growsOf (named s).length (slotsOf s) := by
  unfold needS growsOf
  rw [slots_put]
  split <;> omega
theorem putSlots_put (s : List S106) (n : ByteArray) (i : Int) : putSlots (named s).length (slotsOf s) = slotsOf (putS s n i) := by
  have := allB_lt (slotsOf s) (slotsOf_nonneg s)
  unfold putSlots growsOf
  rw [slots_put]
  by_cases h : ((named s).length : Int) < slotsOf s * 8
  · simp only [if_pos h]; simp
  · simp only [if_neg h]; rw [if_pos (by omega)]
end Go.Proofs.YtmjhflmkgmfjkaaGreatDoor
namespace Go.Proofs.YtmjhflmkgmfjkaaGreatDoor
open Go.RowKit Go.Proofs.YtmjhflmkgmfjkaaGreatDoorW.PrintWords Go.Proofs.YtmjhflmkgmfjkaaGreatDoorW.PrintMore
open PTreeTwins (S58 S106 S35 z58 z106)
def spotVal (f : Nat → Nat) (s : Spot) (lv : Value) : Value := .agg #[ptrO f s.up, .string s.name, ptrO f s.n, lv]
def SpotB (w : World) (b : Nat) (f : Nat → Nat) (s : Spot) (lv : Value) : Prop := w.heap[b]? = some (.cells #[ptrO f s.up, .string s.name, ptrO f s.n, lv] 91 (0, 0))
theorem SpotB.cells {w : World} {b : Nat} {f : Nat → Nat} {s : Spot} {lv : Value} (h : SpotB w b f s lv) : w.cell? ⟨b, 0, none⟩ = some (ptrO f s.up) ∧ w.cell? ⟨b, 1, none⟩ = some (.string s.name) ∧ w.cell? ⟨b, 2, none⟩ = some (ptrO f s.n) ∧ w.cell? ⟨b, 3, none⟩ = some lv := by
  unfold SpotB at h
  simp [World.cell?, h]
theorem SpotB.frozen {w : World} {b : Nat} {f : Nat → Nat} {s : Spot} {lv : Value} (h : SpotB w b f s lv) (o : Nat) : w.frozen? ⟨b, o, none⟩ = false := by
  unfold SpotB at h
  simp [World.frozen?, h]
/-- What the loop of find holds. -/
structure FindAt (w wr : World) (f g : Nat → Nat) (L : List S58) (l : List ByteArray) (k : Nat) (s : Spot) (lv : Value) : Prop where
  spot : SpotB wr (w.heap.size + 1) f s lv
  zero : wr.heap[w.heap.size]? = some (.cells #[.pointer none, .string ⟨#[]⟩, .pointer none, .slice none 0 0] 91 (0, 0))
  below : Below w.heap.size w wr
  sz : w.heap.size + 2 ≤ wr.heap.size
  go : findL L l ⟨none, ByteArray.empty, some 0⟩ = findL L (l.drop k) s
  live : ∀ i, s.n = some i → Live L i
theorem SpotB.step {w : World} {b : Nat} {f : Nat → Nat} {s : Spot} {lv : Value} (h : SpotB w b f s lv) (s' : Spot) : SpotB (((w.setCell ⟨b, 0, none⟩ (ptrO f s'.up)).setCell ⟨b, 1, none⟩ (.string s'.name)).setCell ⟨b, 2, none⟩ (ptrO f s'.n)) b f s' lv := by
  unfold SpotB at *
  simp [World.setCell, Array.getElem?_modify, h]
def FindPost (w : World) (f : Nat → Nat) (L : List S58) (l : List ByteArray) (lv : Value) (e : Ending) (w' : World) : Prop :=
  e = .returned (.tuple #[spotVal f (findL L l ⟨none, ByteArray.empty, some 0⟩).1 (if (findL L l ⟨none, ByteArray.empty, some 0⟩).2 = 0 then lv else .slice none 0 0), .int .i64 (findL L l ⟨none, ByteArray.empty, some 0⟩).2]) ∧ Below w.heap.size w w'
theorem FindPost.of {w : World} {f : Nat → Nat} {L : List S58} {l : List ByteArray} {lv : Value} {w' : World} {s : Spot} {n : Int} {v : Value} (h : findL L l ⟨none, ByteArray.empty, some 0⟩ = (s, n)) (hv : v = .tuple #[spotVal f s (if n = 0 then lv else .slice none 0 0), .int .i64 n]) (hb : Below w.heap.size w w') : FindPost w f L l lv (.returned v) w' := by
  unfold FindPost
  rw [h, hv]
  exact ⟨rfl, hb⟩
set_option maxHeartbeats 1000000 in
theorem find_calls (w : World) (t : Nat) (f g : Nat → Nat) (way : Nat → List ByteArray) (r : RS) (hI : ImplAt w t f g r) (hG : Good r.L way) (A : Option Addr) (c : Nat) (l : List ByteArray) (hl : Kd.C Kd.string w A l.length l) (hc : l.length ≤ c) :
    Calls Tryz.prog 36 #[.pointer (some ⟨t, 0, none⟩), .slice A l.length c] w (FindPost w f r.L l (.slice A l.length c)) := by
  obtain ⟨c0, c1, c2⟩ := hI.tree.cells
  have hlt : t < w.heap.size := World.block_lt_of_cell? w _ c0
  have hmx : l.length ≤ 9223372036854775807 := Kd.C_max hl
  go_enter Tryz.func36, Tryz.ntmps36
  go_wp2
  go_loopw [17] (fun i wr => ∃ (k : Nat) (s : Spot), k ≤ l.length ∧ i = .int .i64 k ∧ FindAt w wr f g r.L l k s (.slice A l.length c)) (fun i _ => l.length - (intOf i).toNat)
  case atStart =>
    refine ⟨0, ⟨none, ByteArray.empty, some 0⟩, Nat.zero_le _, rfl, ?_⟩
    exact ⟨by rw [SpotB, ← World.size_alloc w (.cells #[Value.pointer none, Value.string { data := #[] }, Value.pointer none, Value.slice none 0 0] 91)]; exact heap_alloc_new _ _, (Below.heap_alloc _ _ _ (by simp)).trans (heap_alloc_new _ _), ((Below.refl _ w).alloc (Nat.le_refl _) _).alloc (by simp) _, by simp, rfl, fun i h => by cases h; exact hG.root.1⟩
  case round =>
    obtain ⟨k, s, hk, rfl, hF⟩ := hrel
    obtain ⟨d0, d1, d2, d3⟩ := hF.spot.cells
    have ff0 := hF.spot.frozen 0
    have ff1 := hF.spot.frozen 1
    have ff2 := hF.spot.frozen 2
    have hsz := hF.sz
    have hz : ∀ o, wr.cell? ⟨w.heap.size, o, none⟩ = #[Value.pointer none, .string ⟨#[]⟩, .pointer none, .slice none 0 0][o]? := fun o => by simp [World.cell?, hF.zero]
    have z0 := hz 0
    have z1 := hz 1
    have z2 := hz 2
    have z3 := hz 3
    simp at z0 z1 z2 z3
    have zf : ∀ o, wr.frozen? ⟨w.heap.size, o, none⟩ = false := fun o => by simp [World.frozen?, hF.zero]
    have zf0 := zf 0
    have zf1 := zf 1
    have zf2 := zf 2
    have zf3 := zf 3
    clear hz zf
    by_cases hlt : k < l.length
    · have hdr : l.drop k = rdOf ByteArray.empty l k :: l.drop (k + 1) := by
        rw [List.drop_eq_getElem_cons hlt]; simp [rdOf, hlt]
      obtain ⟨ad, rfl, hcell⟩ := Kd.at_string hl (k : Int) (by omega) (by omega)
      have hcell' := (hF.below.cell (World.block_lt_of_cell? w _ hcell)).trans hcell
      rw [Int.toNat_natCast] at hcell'
      generalize rdOf ByteArray.empty l k = nm at *
      obtain ⟨up, nm0, n⟩ := s
      have Hgo := Lib.hid hF.go
      have Hdr := Lib.hid hdr
      clear hdr hcell
      cases n with
      | none =>
        simp only [ptrO, Option.map_none] at d2
        go_wp2
        refine bodyPost_ret (v := .tuple #[spotVal f Spot.zero (.slice none 0 0), .int .i64 8]) (by simp [results, Tryz.results36, go_sem, z0, z1, z2, z3, spotVal, Spot.zero, ptrO]; rfl) rfl ?_
        refine FindPost.of (s := Spot.zero) (n := 8) ?_ rfl ?_
        · rw [Hgo.out, Hdr.out]; rfl
        · exact (((hF.below.setCell (p := ⟨w.heap.size, 0, none⟩) (Nat.le_refl _) _).setCell (p := ⟨w.heap.size, 1, none⟩) (Nat.le_refl _) _).setCell (p := ⟨w.heap.size, 2, none⟩) (Nat.le_refl _) _).setCell (p := ⟨w.heap.size, 3, none⟩) (Nat.le_refl _) _
      | some i =>
        simp only [ptrO, Option.map_some] at d2
        have hlive : Live r.L i := hF.live i rfl
        have hnode := (hI.node i hlive).below hF.below
        have hdir := hnode.dir
        cases hd : (at_ r.L i).f1 with
        | false =>
          rw [hd] at hdir
          have Hd := Lib.hid hd
          clear hd
          go_wp2
          refine bodyPost_ret (v := .tuple #[spotVal f Spot.zero (.slice none 0 0), .int .i64 11]) (by simp [results, Tryz.results36, go_sem, z0, z1, z2, z3, spotVal, Spot.zero, ptrO]; rfl) rfl ?_
          refine FindPost.of (s := Spot.zero) (n := 11) ?_ rfl ?_
          · rw [Hgo.out, Hdr.out]; simp [findL, Hd.out]
          · exact (((hF.below.setCell (p := ⟨w.heap.size, 0, none⟩) (Nat.le_refl _) _).setCell (p := ⟨w.heap.size, 1, none⟩) (Nat.le_refl _) _).setCell (p := ⟨w.heap.size, 2, none⟩) (Nat.le_refl _) _).setCell (p := ⟨w.heap.size, 3, none⟩) (Nat.le_refl _) _
        | true =>
          rw [hd] at hdir
          obtain ⟨hnd, hkids⟩ := hnode.1 hd
          obtain ⟨n0, n1, n2, n3⟩ := hnd.cells
          have hgne : g i ≠ w.heap.size + 1 := by
            obtain ⟨kv, hkv, _⟩ := hkids
            exact fun e => (hkv.ne_cells (show wr.heap[w.heap.size + 1]? = _ from hF.spot)) e.symm
          have hget : ∀ W : World, W.heap[g i]? = wr.heap[g i]? → (Instr.lookup 83 (.map (some (g i))) (.string nm) false).run Tryz.prog W = .ok (.pointer ((whose (at_ r.L i).f3 nm).map fun i => (⟨f i, 0, none⟩ : Addr))) W := fun W hW => (hkids.of_block hW).get nm
          obtain ⟨pv, hpv⟩ : ∃ pv, pv = (whose (at_ r.L i).f3 nm).map fun i => (⟨f i, 0, none⟩ : Addr) := ⟨_, rfl⟩
          rw [← hpv] at hget
          have hget1 := hget wr.drew rfl
          have hget2 := hget (wr.setCell ⟨w.heap.size + 1, 0, none⟩ (.pointer (some ⟨f i, 0, none⟩))).drew (Below.heap_setCell _ _ _ _ hgne)
          have hget3 := hget ((wr.setCell ⟨w.heap.size + 1, 0, none⟩ (.pointer (some ⟨f i, 0, none⟩))).setCell ⟨w.heap.size + 1, 1, none⟩ (.string nm)).drew ((Below.heap_setCell _ _ _ _ hgne).trans (Below.heap_setCell _ _ _ _ hgne))
          have Hpv := Lib.hid hpv
          have Hd := Lib.hid hd
          clear hpv hd hget
          go_wp2
          go_region
          all_goals
            go_wp2
            go_roundw
            case rel =>
              refine ⟨k + 1, ⟨some i, nm, whose (at_ r.L i).f3 nm⟩, by omega, by go_num, ?_⟩
              rw [Hpv.out]
              exact ⟨hF.spot.step ⟨some i, nm, whose (at_ r.L i).f3 nm⟩, (Below.heap_setCell _ _ _ _ (by simp)).trans ((Below.heap_setCell _ _ _ _ (by simp)).trans ((Below.heap_setCell _ _ _ _ (by simp)).trans hF.zero)),
                (((hF.below.setCell (p := ⟨w.heap.size + 1, 0, none⟩) (by simp) _).setCell (p := ⟨w.heap.size + 1, 1, none⟩) (by simp) _).setCell (p := ⟨w.heap.size + 1, 2, none⟩) (by simp) _).drew, by simpa [World.setCell] using hsz,
                by rw [Hgo.out, Hdr.out]; simp only [findL, Hd.out, if_true], fun j hj => whose_live hG hlive hj⟩
            case measure => simp [intOf]; omega
    · have hkl : k = l.length := by omega
      subst hkl
      have Hgo := Lib.hid hF.go
      simp only [ptrO] at d0 d2
      obtain ⟨pu, hpu⟩ : ∃ pu, pu = s.up.map fun i => (⟨f i, 0, none⟩ : Addr) := ⟨_, rfl⟩
      obtain ⟨pn, hpn⟩ : ∃ pn, pn = s.n.map fun i => (⟨f i, 0, none⟩ : Addr) := ⟨_, rfl⟩
      rw [← hpu] at d0
      rw [← hpn] at d2
      have Hpu := Lib.hid hpu
      have Hpn := Lib.hid hpn
      clear hpu hpn
      go_wp2
      refine bodyPost_ret (v := .tuple #[.agg #[.pointer pu, .string s.name, .pointer pn, .slice A l.length c], .int .i64 0]) (by simp [results, Tryz.results36, go_sem, z0, z1, z2, z3]) rfl ?_
      rw [Hpu.out, Hpn.out]
      refine FindPost.of (s := s) (n := 0) ?_ rfl ?_
      · rw [Hgo.out]; simp [findL]
      · exact (((hF.below.setCell (p := ⟨w.heap.size, 0, none⟩) (Nat.le_refl _) _).setCell (p := ⟨w.heap.size, 1, none⟩) (Nat.le_refl _) _).setCell (p := ⟨w.heap.size, 2, none⟩) (Nat.le_refl _) _).setCell (p := ⟨w.heap.size, 3, none⟩) (Nat.le_refl _) _
end Go.Proofs.YtmjhflmkgmfjkaaGreatDoor
namespace Go.Proofs.YtmjhflmkgmfjkaaGreatDoor
open Go.RowKit Go.Proofs.YtmjhflmkgmfjkaaGreatDoorW.PrintWords Go.Proofs.YtmjhflmkgmfjkaaGreatDoorW.PrintMore
open PTreeTwins (S58 S106 S35 z58 z106)
/-- the blocks that a tree writes -/
def Own (t : Nat) (f g : Nat → Nat) (L : List S58) (k : Nat) : Prop := k = t ∨ ∃ i, Live L i ∧ (k = f i ∨ ((at_ L i).f1 = true ∧ k = g i))
/-- what a call on tree t has done -/
def Did (w : World) (t : Nat) (f g : Nat → Nat) (r r' : RS) (w2 : World) : Prop :=
  ∃ f' g', ImplAt w2 t f' g' r' ∧ Keeps (Own t f g r.L) w w2 ∧ ∀ k, Own t f' g' r'.L k → Own t f g r.L k ∨ w.heap.size ≤ k
/-- limits that hold in every play -/
structure Lim (r : RS) (N : Nat) : Prop where
  small : N ≤ 2000
  slots : ∀ i, (at_ r.L i).f3.length ≤ N
  things : r.L.length ≤ N + 1
  data : ∀ i, (at_ r.L i).f2.length ≤ 8458240
  bl0 : 0 ≤ r.bl
  bl1 : r.bl ≤ 20000 + 20000 * N
  ino0 : 0 ≤ r.ino
  ino1 : r.ino ≤ 1000 + N
def BoxB (w : World) (b : Nat) (v : Value) (ty : Nat) : Prop := w.heap[b]? = some (.cells #[v] ty (0, 0))
theorem BoxB.cell {w : World} {b ty : Nat} {v : Value} (h : BoxB w b v ty) : w.cell? ⟨b, 0, none⟩ = some v := by unfold BoxB at h; simp [World.cell?, h]
theorem BoxB.below {w w' : World} {b ty : Nat} {v : Value} (h : BoxB w b v ty) (hb : Below w.heap.size w w') : BoxB w' b v ty := (hb.block b (Array.getElem?_eq_some_iff.1 h).1).trans h
theorem SpotB.below {w w' : World} {b : Nat} {f : Nat → Nat} {s : Spot} {lv : Value} (h : SpotB w b f s lv) (hb : Below w.heap.size w w') : SpotB w' b f s lv := (hb.block b (Array.getElem?_eq_some_iff.1 h).1).trans h
theorem grows_at {w : World} {b m : Nat} {x : S58} {f : Nat → Nat} (h : DirAt w b m x f) {N : Nat} (hN : N ≤ 2000) (hs : x.f3.length ≤ N) :
    Calls Tryz.prog 66 #[.pointer (some ⟨b, 0, none⟩)] w fun e w' => e = .returned (.int .i64 (growsOf (named x.f3).length (slotsOf x.f3))) ∧ ∃ n, w' = w.drewN n := by
  obtain ⟨hn, kv, hm, hp⟩ := h
  have hl : kv.length = (named x.f3).length := by simpa using hp.length_eq
  have h1 := named_length_le x.f3
  rw [← hl]
  exact grows_calls b m _ _ kv w hn hm (slotsOf_nonneg _) (by unfold slotsOf; omega) (by omega)
theorem put_at {w : World} {b m : Nat} {x : S58} {f : Nat → Nat} (h : DirAt w b m x f) {N : Nat} (hN : N ≤ 2000) (hs : x.f3.length ≤ N) (nm : ByteArray) (hnm : nm ≠ ByteArray.empty) (hno : whose x.f3 nm = none) (f' : Nat → Nat) (i : Nat) (hf : ∀ e ∈ named x.f3, f' (eix e) = f (eix e)) :
    Calls Tryz.prog 68 #[.pointer (some ⟨b, 0, none⟩), .string nm, .pointer (some ⟨f' i, 0, none⟩)] w fun e w' => e = .returned (.tuple #[]) ∧ DirAt w' b m { x with f3 := putS x.f3 nm ((i : Int) + 1) } f' ∧ Keeps (fun j => j = b ∨ j = m) w w' ∧ w'.heap.size = w.heap.size := by
  obtain ⟨hn, kv, hm, hp⟩ := h
  have hl : kv.length = (named x.f3).length := by simpa using hp.length_eq
  have h1 := named_length_le x.f3
  refine (put_calls b m _ _ kv nm (some ⟨f' i, 0, none⟩) w hn hm (slotsOf_nonneg _) (by unfold slotsOf; omega) (by omega)).mono ?_
  rintro e w' ⟨he, hn', hm', hk, hs'⟩
  refine ⟨he, ⟨?_, _, hm', ?_⟩, hk, hs'⟩
  · rw [hl, putSlots_put x.f3 nm ((i : Int) + 1)] at hn'; exact hn'
  · have hno' : aget kv nm = none := by rw [aget_perm hp hm.nodup, aget_ents, hno]; rfl
    have hany : kv.any (fun p => nm == p.1) = false := by
      unfold aget at hno'
      simpa using hno'
    unfold aset
    rw [hany]
    simp only [Bool.false_eq_true, if_false]
    have hmap : (named x.f3).map (entVal f) = (named x.f3).map (entVal f') := List.map_congr_left (fun e he => by simp only [entVal, hf e he])
    rw [hmap] at hp
    refine (List.Perm.append_right _ hp).trans (List.perm_append_comm.trans ?_)
    refine List.Perm.trans ?_ ((named_put x.f3 nm ((i : Int) + 1) hnm).map (entVal f')).symm
    simp [entVal, eix]
theorem NodeB.ne_ty {w : World} {b b' : Nat} {dir : Bool} {dv kv : Value} {s : Int} (h : NodeB w b dir dv kv s) {cs : Array Value} {ty : Nat} {fr : Nat × Nat} (hb : w.heap[b']? = some (.cells cs ty fr)) (ht : ty ≠ 85) : b' ≠ b := by
  intro e; subst e; unfold NodeB at h; rw [h] at hb; cases hb; exact ht rfl
theorem KidsAt.ne_cells {w : World} {m : Nat} {s : List S106} {f : Nat → Nat} (h : KidsAt w m s f) {b : Nat} {cs : Array Value} {ty : Nat} {fr : Nat × Nat} (hb : w.heap[b]? = some (.cells cs ty fr)) : b ≠ m := by
  obtain ⟨kv, hm, _⟩ := h
  exact hm.ne_cells hb
theorem DirAt.drew {w : World} {b m : Nat} {x : S58} {f : Nat → Nat} (h : DirAt w b m x f) : DirAt w.drew b m x f := ⟨h.node, h.kids.of_block rfl⟩
theorem DirAt.other {w : World} {b m : Nat} {x : S58} {f : Nat → Nat} (h : DirAt w b m x f) {p : Addr} (h1 : p.block ≠ b) (h2 : p.block ≠ m) (v : Value) : DirAt (w.setCell p v) b m x f :=
  ⟨(Below.heap_setCell w p v b (fun e => h1 e.symm)).trans h.node, h.kids.of_block (Below.heap_setCell w p v m (fun e => h2 e.symm))⟩
set_option maxHeartbeats 1000000 in
theorem makeAct_file (w : World) (t : Nat) (f g : Nat → Nat) (r : RS) (a : Nat) (hI : TreeB w t (f 0) r.bl r.ino) (hD : DirAt w (f a) (g a) (at_ r.L a) f) {N : Nat} (hL : Lim r N) (nm : ByteArray) (hnm : nm ≠ ByteArray.empty) (hno : whose (at_ r.L a).f3 nm = none) (n0 : Option Nat) (lv : Value)
    (bs bd bt bm : Nat) (more : Int) (hm0 : 0 ≤ more) (hm1 : more ≤ r.bl) (hi1 : 0 < r.ino) (hs : SpotB w bs f ⟨some a, nm, n0⟩ lv) (hd : BoxB w bd (.bool false) 4) (ht : BoxB w bt (.pointer (some ⟨t, 0, none⟩)) 25) (hm : BoxB w bm (.int .i64 more) 3)
    (f' : Nat → Nat) (k : Nat) (hk : f' k = w.heap.size) (hf : ∀ e ∈ named (at_ r.L a).f3, f' (eix e) = f (eix e)) :
    Calls Tryz.prog 67 #[.pointer (some ⟨bs, 0, none⟩), .pointer (some ⟨bd, 0, none⟩), .pointer (some ⟨bt, 0, none⟩), .pointer (some ⟨bm, 0, none⟩)] w fun e w' => e = .returned (.tuple #[]) ∧
      TreeB w' t (f 0) (r.bl - more) (r.ino - 1) ∧ DirAt w' (f a) (g a) { at_ r.L a with f3 := putS (at_ r.L a).f3 nm ((k : Int) + 1) } f' ∧ w'.heap[w.heap.size]? = some (.cells #[.bool false, .slice none 0 0, .map none, .int .i64 0] 85 (0, 0)) ∧
      Keeps (fun j => j = t ∨ j = f a ∨ j = g a) w w' := by
  obtain ⟨s0, s1, s2, s3⟩ := hs.cells
  simp only [ptrO, Option.map_some] at s0
  have d0 := hd.cell
  have t0 := ht.cell
  have m0 := hm.cell
  obtain ⟨c0, c1, c2⟩ := hI.cells
  have e1 := World.block_lt_of_cell? w _ s0
  have e2 := World.block_lt_of_cell? w _ d0
  have e3 := World.block_lt_of_cell? w _ t0
  have e4 := World.block_lt_of_cell? w _ m0
  have e5 := World.block_lt_of_cell? w _ c0
  have hput : ∀ W, Below w.heap.size w W → _ := fun W hW => put_at (hD.below hW) hL.small (hL.slots a) nm hnm hno f' k hf
  rw [hk] at hput
  have hle := hL.bl1
  have hle2 := hL.ino1
  have hle3 := hL.small
  have n1 : ¬ (bs = f a ∨ bs = g a) := fun e => e.elim (hD.node.ne_ty hs (by decide)) (hD.kids.ne_cells hs)
  have n2 : ¬ (bd = f a ∨ bd = g a) := fun e => e.elim (hD.node.ne_ty hd (by decide)) (hD.kids.ne_cells hd)
  have n3 : ¬ (bt = f a ∨ bt = g a) := fun e => e.elim (hD.node.ne_ty ht (by decide)) (hD.kids.ne_cells ht)
  have n4 : ¬ (bm = f a ∨ bm = g a) := fun e => e.elim (hD.node.ne_ty hm (by decide)) (hD.kids.ne_cells hm)
  have n5 : ¬ (t = f a ∨ t = g a) := fun e => e.elim (hD.node.ne_ty hI (by decide)) (hD.kids.ne_cells hI)
  have n6 : ¬ (w.heap.size = f a ∨ w.heap.size = g a) := fun e => e.elim (fun e => by have := hD.node.lt; omega) (fun e => by have := hD.kids.lt; omega)
  have hcell : ∀ (p : Addr) (v : Value) (W : World), w.cell? p = some v → Below w.heap.size w W → W.cell? p = some v := fun p v W hp hW => (hW.cell (World.block_lt_of_cell? w p hp)).trans hp
  go_enter Tryz.func67, Tryz.ntmps67
  go_wp2_with fail
  go_region_held3 (fun W => W.cell? ⟨bs, 0, none⟩ = some (.pointer (some ⟨f a, 0, none⟩)) ∧ W.cell? ⟨bs, 1, none⟩ = some (.string nm) ∧ W.cell? ⟨bd, 0, none⟩ = some (.bool false))
    (first
      | go_keep
      | (refine ⟨hk1.cell (hcell _ _ _ s0 ?_) n1, hk1.cell (hcell _ _ _ s1 ?_) n1, hk1.cell (hcell _ _ _ d0 ?_) n2⟩ <;> exact ((Below.refl _ w).alloc (Nat.le_refl _) _).drew))
    (first
      | (go_at_call 19; refine (fresh_file _).mono ?_; rintro e w' ⟨rfl, rfl⟩)
      | (go_at_call 68; refine (hput _ (by exact ((Below.refl _ w).alloc (Nat.le_refl _) _).drew)).mono ?_; rintro e w1 ⟨rfl, hd1, hk1, hs1⟩))
  have hW : Below w.heap.size w (w.alloc (.cells #[.bool false, .slice none 0 0, .map none, .int .i64 0] 85)).drew := ((Below.refl _ w).alloc (Nat.le_refl _) _).drew
  have T1 : TreeB w1 t (f 0) r.bl r.ino := (hI.below hW).keeps hk1 n5
  have t0' := hk1.cell (hcell _ _ _ t0 hW) n3
  have m0' := hk1.cell (hcell _ _ _ m0 hW) n4
  have hnew : w1.heap[w.heap.size]? = some (.cells #[.bool false, .slice none 0 0, .map none, .int .i64 0] 85 (0, 0)) := hk1.blk (heap_alloc_new w _) n6
  obtain ⟨c0', c1', c2'⟩ := T1.cells
  have f1 := T1.frozen 1
  have f2 := T1.frozen 2
  have hK : Keeps (fun j => j = t ∨ j = f a ∨ j = g a) w w1 := (((Keeps.refl _ w).alloc _).drew).then_ hk1 (fun i hi => .inl (.inr hi))
  clear s0 s1 s2 s3 d0 t0 m0 c0 c1 c2 hcell hput
  go_wp2
  go_region
  all_goals
    go_wp2
    go_end0
    exact ⟨rfl, (TreeB.set2 (w := w1) T1 _).set1 _, ((hd1.other (p := ⟨t, 2, none⟩) (fun e => n5 (.inl e)) (fun e => n5 (.inr e)) _).other (p := ⟨t, 1, none⟩) (fun e => n5 (.inl e)) (fun e => n5 (.inr e)) _).drew, (Below.heap_setCell _ _ _ _ (by simp at e5 ⊢; omega)).trans ((Below.heap_setCell _ _ _ _ (by simp at e5 ⊢; omega)).trans hnew), ((hK.setCell (p := ⟨t, 2, none⟩) (.inl (.inl rfl)) _).setCell (p := ⟨t, 1, none⟩) (.inl (.inl rfl)) _).drew⟩
set_option maxHeartbeats 1000000 in
theorem makeAct_dir (w : World) (t : Nat) (f g : Nat → Nat) (r : RS) (a : Nat) (hI : TreeB w t (f 0) r.bl r.ino) (hD : DirAt w (f a) (g a) (at_ r.L a) f) {N : Nat} (hL : Lim r N) (nm : ByteArray) (hnm : nm ≠ ByteArray.empty) (hno : whose (at_ r.L a).f3 nm = none) (n0 : Option Nat) (lv : Value)
    (bs bd bt bm : Nat) (more : Int) (hm0 : 0 ≤ more) (hm1 : more ≤ r.bl) (hi1 : 0 < r.ino) (hs : SpotB w bs f ⟨some a, nm, n0⟩ lv) (hd : BoxB w bd (.bool true) 4) (ht : BoxB w bt (.pointer (some ⟨t, 0, none⟩)) 25) (hm : BoxB w bm (.int .i64 more) 3)
    (f' : Nat → Nat) (k : Nat) (hk : f' k = w.heap.size) (hf : ∀ e ∈ named (at_ r.L a).f3, f' (eix e) = f (eix e)) :
    Calls Tryz.prog 67 #[.pointer (some ⟨bs, 0, none⟩), .pointer (some ⟨bd, 0, none⟩), .pointer (some ⟨bt, 0, none⟩), .pointer (some ⟨bm, 0, none⟩)] w fun e w' => e = .returned (.tuple #[]) ∧
      TreeB w' t (f 0) (r.bl - more) (r.ino - 1) ∧ DirAt w' (f a) (g a) { at_ r.L a with f3 := putS (at_ r.L a).f3 nm ((k : Int) + 1) } f' ∧ w'.heap[w.heap.size]? = some (.cells #[.bool true, .slice none 0 0, .map (some (w.heap.size + 1)), .int .i64 0] 85 (0, 0)) ∧ w'.heap[w.heap.size + 1]? = some (.map #[] 0) ∧
      Keeps (fun j => j = t ∨ j = f a ∨ j = g a) w w' := by
  obtain ⟨s0, s1, s2, s3⟩ := hs.cells
  simp only [ptrO, Option.map_some] at s0
  have d0 := hd.cell
  have t0 := ht.cell
  have m0 := hm.cell
  obtain ⟨c0, c1, c2⟩ := hI.cells
  have e1 := World.block_lt_of_cell? w _ s0
  have e2 := World.block_lt_of_cell? w _ d0
  have e3 := World.block_lt_of_cell? w _ t0
  have e4 := World.block_lt_of_cell? w _ m0
  have e5 := World.block_lt_of_cell? w _ c0
  have hput : ∀ W, Below w.heap.size w W → _ := fun W hW => put_at (hD.below hW) hL.small (hL.slots a) nm hnm hno f' k hf
  rw [hk] at hput
  have hle := hL.bl1
  have hle2 := hL.ino1
  have hle3 := hL.small
  have n1 : ¬ (bs = f a ∨ bs = g a) := fun e => e.elim (hD.node.ne_ty hs (by decide)) (hD.kids.ne_cells hs)
  have n2 : ¬ (bd = f a ∨ bd = g a) := fun e => e.elim (hD.node.ne_ty hd (by decide)) (hD.kids.ne_cells hd)
  have n3 : ¬ (bt = f a ∨ bt = g a) := fun e => e.elim (hD.node.ne_ty ht (by decide)) (hD.kids.ne_cells ht)
  have n4 : ¬ (bm = f a ∨ bm = g a) := fun e => e.elim (hD.node.ne_ty hm (by decide)) (hD.kids.ne_cells hm)
  have n5 : ¬ (t = f a ∨ t = g a) := fun e => e.elim (hD.node.ne_ty hI (by decide)) (hD.kids.ne_cells hI)
  have n7 : ¬ (w.heap.size + 1 = f a ∨ w.heap.size + 1 = g a) := fun e => e.elim (fun e => by have := hD.node.lt; omega) (fun e => by have := hD.kids.lt; omega)
  have n6 : ¬ (w.heap.size = f a ∨ w.heap.size = g a) := fun e => e.elim (fun e => by have := hD.node.lt; omega) (fun e => by have := hD.kids.lt; omega)
  have hcell : ∀ (p : Addr) (v : Value) (W : World), w.cell? p = some v → Below w.heap.size w W → W.cell? p = some v := fun p v W hp hW => (hW.cell (World.block_lt_of_cell? w p hp)).trans hp
  go_enter Tryz.func67, Tryz.ntmps67
  go_wp2_with fail
  go_region_held3 (fun W => W.cell? ⟨bs, 0, none⟩ = some (.pointer (some ⟨f a, 0, none⟩)) ∧ W.cell? ⟨bs, 1, none⟩ = some (.string nm) ∧ W.cell? ⟨bd, 0, none⟩ = some (.bool true))
    (first
      | go_keep
      | (refine ⟨hk1.cell (hcell _ _ _ s0 ?_) n1, hk1.cell (hcell _ _ _ s1 ?_) n1, hk1.cell (hcell _ _ _ d0 ?_) n2⟩ <;> exact (((Below.refl _ w).alloc (Nat.le_refl _) _).alloc (by simp) _).drew))
    (first
      | (go_at_call 19; refine (fresh_dir _).mono ?_; rintro e w' ⟨rfl, rfl⟩)
      | (go_at_call 68; refine (hput _ (by exact (((Below.refl _ w).alloc (Nat.le_refl _) _).alloc (by simp) _).drew)).mono ?_; rintro e w1 ⟨rfl, hd1, hk1, hs1⟩))
  have hW : Below w.heap.size w ((w.alloc (.cells #[.bool true, .slice none 0 0, .map (some (w.heap.size + 1)), .int .i64 0] 85)).alloc (.map #[] 0)).drew := (((Below.refl _ w).alloc (Nat.le_refl _) _).alloc (by simp) _).drew
  have T1 : TreeB w1 t (f 0) r.bl r.ino := (hI.below hW).keeps hk1 n5
  have t0' := hk1.cell (hcell _ _ _ t0 hW) n3
  have m0' := hk1.cell (hcell _ _ _ m0 hW) n4
  have hnew : w1.heap[w.heap.size]? = some (.cells #[.bool true, .slice none 0 0, .map (some (w.heap.size + 1)), .int .i64 0] 85 (0, 0)) := hk1.blk ((Below.heap_alloc _ _ _ (by simp)).trans (heap_alloc_new w _)) n6
  have hnew2 : w1.heap[w.heap.size + 1]? = some (.map #[] 0) := hk1.blk (by have := heap_alloc_new (w.alloc (.cells #[.bool true, .slice none 0 0, .map (some (w.heap.size + 1)), .int .i64 0] 85)) (.map #[] 0); rw [World.size_alloc] at this; exact this) n7
  obtain ⟨c0', c1', c2'⟩ := T1.cells
  have f1 := T1.frozen 1
  have f2 := T1.frozen 2
  have hK : Keeps (fun j => j = t ∨ j = f a ∨ j = g a) w w1 := ((((Keeps.refl _ w).alloc _).alloc _).drew).then_ hk1 (fun i hi => .inl (.inr hi))
  clear s0 s1 s2 s3 d0 t0 m0 c0 c1 c2 hcell hput
  go_wp2
  go_region
  all_goals
    go_wp2
    go_end0
    exact ⟨rfl, (TreeB.set2 (w := w1) T1 _).set1 _, ((hd1.other (p := ⟨t, 2, none⟩) (fun e => n5 (.inl e)) (fun e => n5 (.inr e)) _).other (p := ⟨t, 1, none⟩) (fun e => n5 (.inl e)) (fun e => n5 (.inr e)) _).drew, (Below.heap_setCell _ _ _ _ (by simp at e5 ⊢; omega)).trans ((Below.heap_setCell _ _ _ _ (by simp at e5 ⊢; omega)).trans hnew), (Below.heap_setCell _ _ _ _ (by simp at e5 ⊢; omega)).trans ((Below.heap_setCell _ _ _ _ (by simp at e5 ⊢; omega)).trans hnew2), ((hK.setCell (p := ⟨t, 2, none⟩) (.inl (.inl rfl)) _).setCell (p := ⟨t, 1, none⟩) (.inl (.inl rfl)) _).drew⟩
end Go.Proofs.YtmjhflmkgmfjkaaGreatDoor
namespace Go.Proofs.YtmjhflmkgmfjkaaGreatDoor
open Go.RowKit Go.Proofs.YtmjhflmkgmfjkaaGreatDoorW.PrintWords Go.Proofs.YtmjhflmkgmfjkaaGreatDoorW.PrintMore
open PTreeTwins (S58 S106 S35 z58 z106)
/-- a block that holds no bytes: a node, a Tree, a map -/
def NoBytes (w : World) (k : Nat) : Prop := (∃ cs ty, w.heap[k]? = some (.cells cs ty (0, 0)) ∧ ty ≠ 5) ∨ ∃ es c, w.heap[k]? = some (.map es c)
theorem bytes_keeps {w w' : World} {S : Nat → Prop} {base : Nat} {v : Value} {b : List Int} (h : (Kd.int .u8).R 5 w base (fun _ => True) v b) (hk : Keeps S w w') (hS : ∀ k, S k → k < w.heap.size → NoBytes w k) : (Kd.int .u8).R 5 w' base (fun _ => True) v b := by
  refine Kd.R_mono (Kd.R_step (Kd.R_bound h) (fun k hb hlt => hk.block k hlt (fun hs => ?_))) (fun _ _ => trivial)
  obtain ⟨_, _, _, q, hq, cells, hc⟩ := hb
  have hq' : q = 5 := by simpa [Kd.int, Kd.scalar] using hq
  subst hq'
  rcases hS k hs hlt with ⟨cs, ty, h1, h2⟩ | ⟨es, c, h1⟩
  · rw [hc] at h1; cases h1; exact h2 rfl
  · rw [hc] at h1; cases h1
theorem NodeAt.keeps {w w' : World} {b m : Nat} {x : S58} {f f' : Nat → Nat} {S : Nat → Prop} (h : NodeAt w b m x f) (hk : Keeps S w w') (hS : ∀ k, S k → k < w.heap.size → NoBytes w k) (hb : ¬ S b) (hm : x.f1 = true → ¬ S m) (hf : x.f1 = true → ∀ e ∈ named x.f3, f' (eix e) = f (eix e)) : NodeAt w' b m x f' := by
  constructor
  · intro hd
    obtain ⟨hn, kv, hkv, hp⟩ := h.1 hd
    refine ⟨hn.keeps hk hb, kv, hkv.keeps hk (hm hd), ?_⟩
    have : (named x.f3).map (entVal f') = (named x.f3).map (entVal f) := List.map_congr_left (fun e he => by simp only [entVal, hf hd e he])
    rw [this]; exact hp
  · intro hd
    obtain ⟨v, hn, hv⟩ := h.2 hd
    exact ⟨v, hn.keeps hk hb, bytes_keeps hv hk hS⟩
theorem impl_upd {w w2 : World} {t : Nat} {f g f' g' : Nat → Nat} {r r' : RS} (T : Nat → Prop) (S : Nat → Prop) (hI : ImplAt w t f g r) (hk : Keeps S w w2) (hS : ∀ k, S k → k < w.heap.size → NoBytes w k) (ht : TreeB w2 t (f' 0) r'.bl r'.ino)
    (hT : ∀ i, Live r'.L i → ¬ T i → Live r.L i ∧ at_ r'.L i = at_ r.L i ∧ f' i = f i ∧ g' i = g i ∧ ¬ S (f i) ∧ ((at_ r.L i).f1 = true → ¬ S (g i)) ∧ ((at_ r.L i).f1 = true → ∀ e ∈ named (at_ r.L i).f3, f' (eix e) = f (eix e)))
    (hN : ∀ i, Live r'.L i → T i → NodeAt w2 (f' i) (g' i) (at_ r'.L i) f')
    (hi : ∀ i j, Live r'.L i → Live r'.L j → f' i = f' j → i = j) (hj : ∀ i j, Live r'.L i → Live r'.L j → (at_ r'.L i).f1 = true → (at_ r'.L j).f1 = true → g' i = g' j → i = j) : ImplAt w2 t f' g' r' :=
  ⟨ht, fun i hl => by
    by_cases hti : T i
    · exact hN i hl hti
    · obtain ⟨h1, h2, h3, h4, h5, h6, h7⟩ := hT i hl hti
      rw [h2, h3, h4]
      exact (hI.node i h1).keeps hk hS h5 h6 h7, hi, hj⟩
theorem NodeAt.head {w : World} {b m : Nat} {x : S58} {f : Nat → Nat} (h : NodeAt w b m x f) : ∃ dv kv s, NodeB w b x.f1 dv kv s := by
  cases hd : x.f1 with
  | true => exact ⟨_, _, _, (h.1 hd).node⟩
  | false => obtain ⟨v, hv, _⟩ := h.2 hd; exact ⟨_, _, _, hv⟩
theorem NodeAt.lt {w : World} {b m : Nat} {x : S58} {f : Nat → Nat} (h : NodeAt w b m x f) : b < w.heap.size := by
  obtain ⟨_, _, _, hn⟩ := h.head; exact hn.lt
theorem ImplAt.f_ne_t {w : World} {t : Nat} {f g : Nat → Nat} {r : RS} (h : ImplAt w t f g r) {i : Nat} (hi : Live r.L i) : t ≠ f i := by
  obtain ⟨_, _, _, hn⟩ := (h.node i hi).head
  exact h.tree.ne_node hn
theorem ImplAt.g_ne_t {w : World} {t : Nat} {f g : Nat → Nat} {r : RS} (h : ImplAt w t f g r) {i : Nat} (hi : Live r.L i) (hd : (at_ r.L i).f1 = true) : t ≠ g i := ((h.node i hi).1 hd).kids.ne_cells h.tree
theorem ImplAt.f_ne_g {w : World} {t : Nat} {f g : Nat → Nat} {r : RS} (h : ImplAt w t f g r) {i j : Nat} (hi : Live r.L i) (hj : Live r.L j) (hd : (at_ r.L j).f1 = true) : f i ≠ g j := by
  obtain ⟨_, _, _, hn⟩ := (h.node i hi).head
  exact ((h.node j hj).1 hd).kids.ne_cells hn
theorem ImplAt.f_lt {w : World} {t : Nat} {f g : Nat → Nat} {r : RS} (h : ImplAt w t f g r) {i : Nat} (hi : Live r.L i) : f i < w.heap.size := (h.node i hi).lt
theorem ImplAt.g_lt {w : World} {t : Nat} {f g : Nat → Nat} {r : RS} (h : ImplAt w t f g r) {i : Nat} (hi : Live r.L i) (hd : (at_ r.L i).f1 = true) : g i < w.heap.size := ((h.node i hi).1 hd).kids.lt
theorem ImplAt.own_nobytes {w : World} {t : Nat} {f g : Nat → Nat} {r : RS} (h : ImplAt w t f g r) {k : Nat} (hk : Own t f g r.L k) : NoBytes w k := by
  rcases hk with rfl | ⟨i, hi, rfl | ⟨hd, rfl⟩⟩
  · exact .inl ⟨_, _, h.tree, by decide⟩
  · obtain ⟨_, _, _, hn⟩ := (h.node i hi).head
    exact .inl ⟨_, _, hn, by decide⟩
  · obtain ⟨kv, ⟨_, es, c, hm, _⟩, _⟩ := ((h.node i hi).1 hd).kids
    exact .inr ⟨es, c, hm⟩
/-- what make's act leaves -/
def madeRS (r : RS) (a : Nat) (nm : ByteArray) (dir : Bool) (more : Int) : RS :=
  { L := setF3 (placeL r.L (freshL r.L) ⟨true, dir, [], []⟩) a (putS (at_ r.L a).f3 nm ((freshL r.L : Int) + 1)), bl := r.bl - more, ino := r.ino - 1 }
theorem made_at (r : RS) (a : Nat) (nm : ByteArray) (dir : Bool) (more : Int) (ha : Live r.L a) (i : Nat) :
    at_ (madeRS r a nm dir more).L i = if i = a then { at_ r.L a with f3 := putS (at_ r.L a).f3 nm ((freshL r.L : Int) + 1) } else if i = freshL r.L then ⟨true, dir, [], []⟩ else at_ r.L i := by
  have hak : a ≠ freshL r.L := fun e => freshL_dead r.L (e ▸ ha)
  have hlt := live_lt ha
  have hle := freshL_le r.L
  have h1 := (placeL_length r.L (freshL r.L) ⟨true, dir, [], []⟩).1
  unfold madeRS
  simp only
  rw [at_setF3 _ _ _ (by omega), at_place _ _ _ hle, at_place _ _ _ hle, if_neg hak]
theorem made_live (r : RS) (a : Nat) (nm : ByteArray) (dir : Bool) (more : Int) (ha : Live r.L a) (i : Nat) : Live (madeRS r a nm dir more).L i ↔ i = freshL r.L ∨ Live r.L i := by
  have hak : a ≠ freshL r.L := fun e => freshL_dead r.L (e ▸ ha)
  unfold Live
  rw [made_at r a nm dir more ha]
  by_cases h1 : i = a
  · subst h1; simp only [if_true]; constructor
    · intro h; exact .inr h
    · intro _; exact ha
  · rw [if_neg h1]
    by_cases h2 : i = freshL r.L
    · simp [h2]
    · rw [if_neg h2]; simp [h2]
/-- The tree behind make's act: what it owns now was its own, or is new. -/
theorem did_make {w w2 : World} {t : Nat} {f g : Nat → Nat} {r : RS} {way : Nat → List ByteArray} {a : Nat} {nm : ByteArray} {dir : Bool} {more : Int} (hI : ImplAt w t f g r) (hG : Good r.L way) (ha : Live r.L a) (had : (at_ r.L a).f1 = true) (B M : Nat) (hB : w.heap.size ≤ B) (hM : w.heap.size ≤ M)
    (ht : TreeB w2 t (f 0) (r.bl - more) (r.ino - 1)) (hD : DirAt w2 (f a) (g a) { at_ r.L a with f3 := putS (at_ r.L a).f3 nm ((freshL r.L : Int) + 1) } (fun i => if i = freshL r.L then B else f i))
    (hN : NodeAt w2 B M ⟨true, dir, [], []⟩ (fun i => if i = freshL r.L then B else f i)) (hk : Keeps (fun j => j = t ∨ j = f a ∨ j = g a) w w2) : Did w t f g r (madeRS r a nm dir more) w2 := by
  have h0 : ¬ (0 : Nat) = freshL r.L := fun e => freshL_dead r.L (e ▸ hG.root.1)
  have hak : a ≠ freshL r.L := fun e => freshL_dead r.L (e ▸ ha)
  have hlk : ∀ i, Live r.L i → i ≠ freshL r.L := fun i hi e => freshL_dead r.L (e ▸ hi)
  have hS : ∀ k, (k = t ∨ k = f a ∨ k = g a) → Own t f g r.L k := fun k hk => by
    rcases hk with rfl | rfl | rfl
    · exact .inl rfl
    · exact .inr ⟨a, ha, .inl rfl⟩
    · exact .inr ⟨a, ha, .inr ⟨had, rfl⟩⟩
  refine ⟨fun i => if i = freshL r.L then B else f i, fun i => if i = freshL r.L then M else g i, impl_upd (fun i => i = a ∨ i = freshL r.L) (fun j => j = t ∨ j = f a ∨ j = g a) hI hk (fun k hs _ => hI.own_nobytes (hS k hs)) ?_ ?_ ?_ ?_ ?_, hk.mono hS, ?_⟩
  · simp only [if_neg h0]; exact ht
  · intro i hl hT
    have h1 : i ≠ a := fun e => hT (.inl e)
    have h2 : i ≠ freshL r.L := fun e => hT (.inr e)
    have hl' := ((made_live r a nm dir more ha i).1 hl).resolve_left h2
    refine ⟨hl', by rw [made_at r a nm dir more ha, if_neg h1, if_neg h2], if_neg h2, if_neg h2, ?_, ?_, ?_⟩
    · rintro (e | e | e)
      · exact hI.f_ne_t hl' e.symm
      · exact h1 (hI.inj i a hl' ha e)
      · exact hI.f_ne_g hl' ha had e
    · intro hd
      rintro (e | e | e)
      · exact hI.g_ne_t hl' hd e.symm
      · exact hI.f_ne_g ha hl' hd e.symm
      · exact h1 (hI.injm i a hl' ha hd had e)
    · intro hd e he
      exact if_neg (hlk _ (hG.kid i hl' e he).2.1)
  · intro i hl hT
    rcases hT with rfl | rfl
    · rw [made_at r i nm dir more ha, if_pos rfl]
      simp only [if_neg hak]
      exact ⟨fun _ => hD, fun e => by simp only at e; rw [had] at e; cases e⟩
    · have : at_ (madeRS r a nm dir more).L (freshL r.L) = ⟨true, dir, [], []⟩ := by rw [made_at r a nm dir more ha, if_neg (fun e => hak e.symm), if_pos rfl]
      rw [this]
      simp only [if_true]
      exact hN
  · intro i j hi hj e
    have hi' := (made_live r a nm dir more ha i).1 hi
    have hj' := (made_live r a nm dir more ha j).1 hj
    by_cases h1 : i = freshL r.L <;> by_cases h2 : j = freshL r.L
    · rw [h1, h2]
    · simp only [if_pos h1, if_neg h2] at e
      have := hI.f_lt (hj'.resolve_left h2); omega
    · simp only [if_neg h1, if_pos h2] at e
      have := hI.f_lt (hi'.resolve_left h1); omega
    · simp only [if_neg h1, if_neg h2] at e
      exact hI.inj i j (hi'.resolve_left h1) (hj'.resolve_left h2) e
  · have hdd : ∀ i, i ≠ freshL r.L → (at_ (madeRS r a nm dir more).L i).f1 = true → (at_ r.L i).f1 = true := fun i h1 hd => by
      rw [made_at r a nm dir more ha] at hd
      by_cases h2 : i = a
      · rw [h2]; exact had
      · rw [if_neg h2, if_neg h1] at hd; exact hd
    intro i j hi hj hdi hdj e
    have hi' := (made_live r a nm dir more ha i).1 hi
    have hj' := (made_live r a nm dir more ha j).1 hj
    by_cases h1 : i = freshL r.L <;> by_cases h2 : j = freshL r.L
    · rw [h1, h2]
    · simp only [if_pos h1, if_neg h2] at e
      have := hI.g_lt (hj'.resolve_left h2) (hdd j h2 hdj); omega
    · simp only [if_neg h1, if_pos h2] at e
      have := hI.g_lt (hi'.resolve_left h1) (hdd i h1 hdi); omega
    · simp only [if_neg h1, if_neg h2] at e
      exact hI.injm i j (hi'.resolve_left h1) (hj'.resolve_left h2) (hdd i h1 hdi) (hdd j h2 hdj) e
  · rintro k (rfl | ⟨i, hi, hki⟩)
    · exact .inl (.inl rfl)
    · have hi' := (made_live r a nm dir more ha i).1 hi
      by_cases h1 : i = freshL r.L
      · simp only [if_pos h1] at hki
        rcases hki with rfl | ⟨_, rfl⟩
        · exact .inr hB
        · exact .inr hM
      · simp only [if_neg h1] at hki
        refine .inl (.inr ⟨i, hi'.resolve_left h1, hki.imp id (fun ⟨hd, e⟩ => ⟨?_, e⟩)⟩)
        rw [made_at r a nm dir more ha] at hd
        by_cases h2 : i = a
        · rw [h2]; exact had
        · rw [if_neg h2, if_neg h1] at hd; exact hd
end Go.Proofs.YtmjhflmkgmfjkaaGreatDoor
namespace Go.Proofs.YtmjhflmkgmfjkaaGreatDoor
open Go.RowKit Go.Proofs.YtmjhflmkgmfjkaaGreatDoorW.PrintWords Go.Proofs.YtmjhflmkgmfjkaaGreatDoorW.PrintMore
abbrev kB : Kd Int := Kd.int .u8
theorem info_u8 : (Tryz.prog.info? 5).map (fun i => (i.zero, i.size, i.bytes)) = some (some (.int .u8 0), 1, 1) := by kernel_rfl
/-- what an owned row of bytes says with less -/
theorem kB_base {W : World} {base : Nat} {ok : Nat → Prop} {v : Value} {b : List Int} (h : kB.R 5 W base ok v b) : kB.R 5 W 0 (fun _ => True) v b := Kd.R_mono (Kd.R_lower h (Nat.zero_le _)) (fun _ _ => trivial)
theorem clone_calls (A : Option Addr) (n c : Nat) (b : List Int) (w : World) (h : kB.C w A n b) (hc : n ≤ c) (hn : n ≤ 100000000) :
    Calls Tryz.prog 32 #[.slice A n c] w fun e w' => ∃ v, e = .returned v ∧ kB.R 5 w' w.heap.size (fun _ => True) v b ∧ Below w.heap.size w w' := by
  have he := fun W : World => Lib.run_eql_slice_nil (P := Tryz.prog) W 33 5 A n c 0 0 Tryz.underlying33
  cases A with
  | none =>
    have hn0 : n = 0 := by
      rcases Nat.eq_zero_or_pos n with h0 | h0
      · exact h0
      · obtain ⟨ad, e, _⟩ := h.2.2 h0; cases e
    subst hn0
    have hb : b = [] := List.eq_nil_of_length_eq_zero h.1
    subst hb
    go_enter Tryz.func32, Tryz.ntmps32
    go_wp2
    go_ret
    exact ⟨_, rfl, Kd.R_nil _ _ _ _ _, Below.refl _ _⟩
  | some ad =>
    have HC := Lib.hid h
    have hl := h.1
    have Hl := Lib.hid hl
    clear h hl
    go_enter Tryz.func32, Tryz.ntmps32
    go_wp2_with (first
      | (refine Kd.R_lit kB w.heap.size 5 rfl (N := 5) rfl (xs := []) (inner := []) (ok := fun _ => True) (okp := fun _ => True) (by go_simp; done) (Reps.none _ _) (fun _ hk => hk) trivial (Below.refl _ _) (Nat.le_refl _) (by simp) ?_; intro v1 w1 ho1 hb1 hg1 hat1)
      | (at_builtin; refine Kd.R_append_rows kB (Rr := kB.K w) w.heap.size rfl _ _ 33 5 (.int .u8 0) 1 rfl Tryz.underlying33 info_u8 rfl (by decide) (by decide) v1 [] b (some ad) n c (fun _ => True) (fun _ => False) rfl rfl ho1 (ReadsRow.imp_ HC.out (by exact hb1) (fun _ _ hp => hp)) (fun _ _ hp => hp) (fun _ hk => hk.elim) (fun _ _ => trivial) hb1 hb1.size (by simp; omega) ?_; intro v2 w2 ho2 hb2 hg2 hat2))
    go_ret
    exact ⟨_, rfl, by simpa using ho2, hb2⟩
theorem grow_calls (n : Nat) (w : World) (hn : n ≤ 100000000) :
    Calls Tryz.prog 97 #[.slice none 0 0, .int .i64 n] w fun e w' => ∃ v, e = .returned v ∧ kB.R 5 w' w.heap.size (fun _ => True) v [] ∧ Below w.heap.size w w' := by
  by_cases h0 : n = 0
  · subst h0
    go_enter Tryz.func97, Tryz.ntmps97
    go_wp2
    go_ret
    exact ⟨_, rfl, Kd.R_nil _ _ _ _ _, Below.refl _ _⟩
  · have hp : 0 < n := by omega
    clear h0
    have hd : decide ((0 : Int) < (n : Int)) = true := decide_eq_true (by omega)
    have hd' : decide (0 < n) = true := decide_eq_true hp
    have hd2 : decide ((n : Int) < 0) = false := decide_eq_false (by omega)
    go_enter Tryz.func97, Tryz.ntmps97
    go_wp2_with (first
      | (at_builtin; refine Kd.R_append_zeros kB w.heap.size rfl _ _ 33 3 5 (.int .u8 0) 1 rfl Tryz.underlying33 Tryz.underlying3 info_u8 rfl (by decide) (by decide) (.slice none 0 0) [] 0 (n : Int) (fun _ => True) rfl rfl (by exact rfl) (fun _ _ => trivial) (Kd.R_nil _ _ _ _ _) (by omega) (Below.refl _ _) (Nat.le_refl _) (by simp; omega) ?_; intro v2 w2 ho2 hb2 hg2 hat2; obtain ⟨A2, c2, rfl, hc2, _⟩ := Kd.R_reads ho2))
    go_ret
    exact ⟨_, rfl, Kd.R_take ho2 (Nat.zero_le _), hb2⟩
theorem concat_calls (B : Nat) (A0 A1 : Option Addr) (n0 n1 c0 c1 : Nat) (b0 b1 : List Int) (w : World) (hB : w.heap[B]? = some (.cells #[.slice A0 n0 c0, .slice A1 n1 c1] 33 (0, 0))) (h0 : kB.C w A0 n0 b0) (h1 : kB.C w A1 n1 b1) (hn0 : n0 ≤ 50000000) (hn1 : n1 ≤ 50000000) :
    Calls Tryz.prog 73 #[.slice (some ⟨B, 0, none⟩) 2 2] w fun e w' => ∃ v, e = .returned v ∧ kB.R 5 w' w.heap.size (fun _ => True) v (b0 ++ b1) ∧ Below w.heap.size w w' := by
  have x0 : w.cell? ⟨B, 0, none⟩ = some (.slice A0 n0 c0) := by simp [World.cell?, hB]
  have x1 : w.cell? ⟨B, 1, none⟩ = some (.slice A1 n1 c1) := by simp [World.cell?, hB]
  have hBlt : B < w.heap.size := (Array.getElem?_eq_some_iff.1 hB).1
  have HB := Lib.hid hB
  have H0 := Lib.hid h0
  have H1 := Lib.hid h1
  clear hB h0 h1
  go_enter Tryz.func73, Tryz.ntmps73
  go_wp2
  go_loop [11, 3] (fun i t => ∃ k : Nat, k ≤ 2 ∧ i = .int .i64 k ∧ t = .int .i64 (if k = 0 then 0 else if k = 1 then n0 else n0 + n1 : Nat)) (fun i _ => 2 - (intOf i).toNat)
  case atStart => exact ⟨0, by omega, rfl, rfl⟩
  case round =>
    obtain ⟨k, hk, rfl, rfl⟩ := hrel
    rcases (by omega : k = 0 ∨ k = 1 ∨ k = 2) with rfl | rfl | rfl
    · go_wp2
      go_round
      case rel => exact ⟨1, by omega, rfl, by simp⟩
      case measure => simp [intOf]
    · simp only [show (1 : Nat) ≠ 0 from by decide, if_false, if_true]
      go_wp2
      go_round
      case rel => exact ⟨2, by omega, rfl, by simp⟩
      case measure => simp [intOf]
    · simp only [show (2 : Nat) ≠ 0 from by decide, show (2 : Nat) ≠ 1 from by decide, if_false]
      go_wp2_with (go_at_call 97; refine (grow_calls (n0 + n1) _ (by omega)).mono ?_; rintro e w1 ⟨v1, rfl, ho1, hb1⟩)
      go_loopw [27, 6, 8] (fun i v _ wr => ∃ (k : Nat) (bs : List Int), k ≤ 2 ∧ i = .int .i64 k ∧ bs = (if k = 0 then [] else if k = 1 then b0 else b0 ++ b1) ∧ kB.R 5 wr w.heap.size (fun _ => True) v bs ∧ Below w.heap.size w wr) (fun i _ _ _ => 2 - (intOf i).toNat)
      case atStart => exact ⟨0, [], by omega, rfl, rfl, ho1, hb1⟩
      case round =>
        obtain ⟨k, bs, hk, rfl, hbs, hor, hbr⟩ := hrel
        have y0 := (hbr.cell (p := ⟨B, 0, none⟩) hBlt).trans x0
        have y1 := (hbr.cell (p := ⟨B, 1, none⟩) hBlt).trans x1
        have l0 : b0.length = n0 := H0.out.1
        have l1 : b1.length = n1 := H1.out.1
        have L0 := Lib.hid l0
        have L1 := Lib.hid l1
        clear l0 l1
        rcases (by omega : k = 0 ∨ k = 1 ∨ k = 2) with rfl | rfl | rfl
        · have hbs' : bs = [] := by simpa using hbs
          subst hbs'
          clear hbs
          go_wp2_with (at_builtin; refine Kd.R_append_rows kB (Rr := kB.K w) w.heap.size rfl _ _ 33 5 (.int .u8 0) 1 rfl Tryz.underlying33 info_u8 rfl (by decide) (by decide) _ [] b0 A0 n0 c0 (fun _ => True) (fun _ => False) rfl rfl hor (ReadsRow.imp_ H0.out (by exact hbr) (fun _ _ hp => hp)) (fun _ _ hp => hp) (fun _ hk => hk.elim) (fun _ _ => trivial) hbr hbr.size (by simp; omega) ?_; intro v2 w2 ho2 hb2 hg2 hat2)
          go_roundw
          case rel => exact ⟨1, b0, by omega, rfl, by simp, by simpa using ho2, hb2⟩
          case measure => simp [intOf]
        · have hbs' : bs = b0 := by simpa using hbs
          subst hbs'
          clear hbs
          go_wp2_with (at_builtin; refine Kd.R_append_rows kB (Rr := kB.K w) w.heap.size rfl _ _ 33 5 (.int .u8 0) 1 rfl Tryz.underlying33 info_u8 rfl (by decide) (by decide) _ bs b1 A1 n1 c1 (fun _ => True) (fun _ => False) rfl rfl hor (ReadsRow.imp_ H1.out (by exact hbr) (fun _ _ hp => hp)) (fun _ _ hp => hp) (fun _ hk => hk.elim) (fun _ _ => trivial) hbr hbr.size (by rw [L0.out]; omega) ?_; intro v2 w2 ho2 hb2 hg2 hat2)
          go_roundw
          case rel => exact ⟨2, bs ++ b1, by omega, rfl, by simp, ho2, hb2⟩
          case measure => simp [intOf]
        · have hbs' : bs = b0 ++ b1 := by simpa using hbs
          subst hbs'
          clear hbs
          go_wp2
          go_ret
          exact ⟨_, rfl, hor, hbr⟩
end Go.Proofs.YtmjhflmkgmfjkaaGreatDoor
namespace Go.Proofs.YtmjhflmkgmfjkaaGreatDoor
open Go.RowKit Go.Proofs.YtmjhflmkgmfjkaaGreatDoorW.PrintWords Go.Proofs.YtmjhflmkgmfjkaaGreatDoorW.PrintMore
open PTreeTwins (S58 S106 S35 z58 z106)
/-- what an act does, whenever it is called right away; it can be called -/
def Acts (fn : Nat) (cap : Array Value) (w : World) (R : World → Prop) : Prop := (∀ args W, (callFunc fn args).run Tryz.prog W = .ok (.enter fn args) W) ∧ ∀ n, Calls Tryz.prog fn cap (w.drewN n) fun e w' => e = .returned (.tuple #[]) ∧ R w'
theorem enters67 : ∀ args W, (callFunc 67 args).run Tryz.prog W = .ok (.enter 67 args) W := enters_of Tryz.func67 (by kernel_rfl) rfl
theorem enters72 : ∀ args W, (callFunc 72 args).run Tryz.prog W = .ok (.enter 72 args) W := enters_of Tryz.func72 (by kernel_rfl) rfl
theorem enters74 : ∀ args W, (callFunc 74 args).run Tryz.prog W = .ok (.enter 74 args) W := enters_of Tryz.func74 (by kernel_rfl) rfl
theorem enters75 : ∀ args W, (callFunc 75 args).run Tryz.prog W = .ok (.enter 75 args) W := enters_of Tryz.func75 (by kernel_rfl) rfl
theorem enters79 : ∀ args W, (callFunc 79 args).run Tryz.prog W = .ok (.enter 79 args) W := enters_of Tryz.func79 (by kernel_rfl) rfl
theorem enters81 : ∀ args W, (callFunc 81 args).run Tryz.prog W = .ok (.enter 81 args) W := enters_of Tryz.func81 (by kernel_rfl) rfl
theorem enters98 : ∀ args W, (callFunc 98 args).run Tryz.prog W = .ok (.enter 98 args) W := enters_of Tryz.func98 (by kernel_rfl) rfl
/-- what a plan answers: an act, or what is wrong -/
def PlanPost (w : World) (t : Nat) (f g : Nat → Nat) (r : RS) (res : RS × Int) (e : Ending) (w' : World) : Prop :=
  ∃ cl, e = .returned (.tuple #[cl, .int .i64 res.2]) ∧ Below w.heap.size w w' ∧ (res.2 = 0 → ∃ fn cap, cl = .func (.func fn) #[] cap ∧ Acts fn cap w' (Did w' t f g r res.1))
theorem PlanPost.bad {w : World} {t : Nat} {f g : Nat → Nat} {r : RS} {res : RS × Int} {cl : Value} {n : Int} {w' : World} (h : res.2 = n) (hn : n ≠ 0) (hb : Below w.heap.size w w') : PlanPost w t f g r res (.returned (.tuple #[cl, .int .i64 n])) w' :=
  ⟨cl, by rw [h], hb, fun e => absurd (h.symm.trans e) hn⟩
theorem acts_make {w : World} {t : Nat} {f g : Nat → Nat} {r : RS} {way : Nat → List ByteArray} {N a : Nat} {nm : ByteArray} {dir : Bool} {more : Int} (hI : ImplAt w t f g r) (hG : Good r.L way) (hL : Lim r N) (ha : Live r.L a) (had : (at_ r.L a).f1 = true) (hnm : nm ≠ ByteArray.empty) (hno : whose (at_ r.L a).f3 nm = none) (n0 : Option Nat) (lv : Value)
    (bs bd bt bm : Nat) (hm0 : 0 ≤ more) (hm1 : more ≤ r.bl) (hi1 : 0 < r.ino) (hs : SpotB w bs f ⟨some a, nm, n0⟩ lv) (hd : BoxB w bd (.bool dir) 4) (ht : BoxB w bt (.pointer (some ⟨t, 0, none⟩)) 25) (hm : BoxB w bm (.int .i64 more) 3) :
    Acts 67 #[.pointer (some ⟨bs, 0, none⟩), .pointer (some ⟨bd, 0, none⟩), .pointer (some ⟨bt, 0, none⟩), .pointer (some ⟨bm, 0, none⟩)] w (Did w t f g r (madeRS r a nm dir more)) := by
  refine ⟨enters67, fun n => ?_⟩
  have hb : Below w.heap.size w (w.drewN n) := pw_below_drewN (Below.refl _ _) n
  have hf : ∀ e ∈ named (at_ r.L a).f3, (if eix e = freshL r.L then w.heap.size else f (eix e)) = f (eix e) := fun e he => if_neg (fun h => freshL_dead r.L (by rw [← h]; exact (hG.kid a ha e he).2.1))
  cases dir with
  | false =>
    refine (makeAct_file (w.drewN n) t f g r a (hI.below hb).tree (((hI.below hb).node a ha).1 had) hL nm hnm hno n0 lv bs bd bt bm more hm0 hm1 hi1 (hs.below hb) (hd.below hb) (ht.below hb) (hm.below hb) (fun i => if i = freshL r.L then w.heap.size else f i) (freshL r.L) (if_pos rfl) hf).mono ?_
    rintro e w2 ⟨he, h1, h2, h3, h4⟩
    refine ⟨he, ?_⟩
    exact did_make (M := w.heap.size) hI hG ha had w.heap.size (Nat.le_refl _) (Nat.le_refl _) h1 h2 ⟨(fun e => by cases e), fun _ => ⟨.slice none 0 0, h3, Kd.R_nil _ _ _ _ _⟩⟩ ⟨h4.os, h4.tape, h4.output, h4.size, h4.block⟩
  | true =>
    refine (makeAct_dir (w.drewN n) t f g r a (hI.below hb).tree (((hI.below hb).node a ha).1 had) hL nm hnm hno n0 lv bs bd bt bm more hm0 hm1 hi1 (hs.below hb) (hd.below hb) (ht.below hb) (hm.below hb) (fun i => if i = freshL r.L then w.heap.size else f i) (freshL r.L) (if_pos rfl) hf).mono ?_
    rintro e w2 ⟨he, h1, h2, h3, h3', h4⟩
    refine ⟨he, ?_⟩
    exact did_make (M := w.heap.size + 1) hI hG ha had w.heap.size (Nat.le_refl _) (Nat.le_succ _) h1 h2 ⟨fun _ => ⟨h3, [], ⟨List.nodup_nil, #[], 0, h3', rfl, by simp, by simp⟩, List.Perm.refl _⟩, fun e => by cases e⟩ ⟨h4.os, h4.tape, h4.output, h4.size, h4.block⟩
/-- what make comes to, at a spot -/
def iMake (r : RS) (s : Spot) (dir : Bool) : RS × Int := match s.n with
  | some _ => (r, 9)
  | none => match s.up with
    | none => (r, 9)
    | some a => if r.ino = 0 ∨ growsOf (named (at_ r.L a).f3).length (slotsOf (at_ r.L a).f3) > r.bl then (r, 7) else (madeRS r a s.name dir (growsOf (named (at_ r.L a).f3).length (slotsOf (at_ r.L a).f3)), 0)
theorem growsOf_bd (n : Nat) (s : Int) (h0 : 0 ≤ s) (h1 : s ≤ 300) : 0 ≤ growsOf n s ∧ growsOf n s ≤ 20000 := by
  unfold growsOf
  have a := allB_bd ((s + 1) * 512) (by omega) (by omega)
  have b := allB_bd (s * 512) (by omega) (by omega)
  have c := allB_lt s h0
  split <;> omega
set_option maxHeartbeats 2000000 in
theorem make_calls (w : World) (t : Nat) (f g : Nat → Nat) (way : Nat → List ByteArray) (r : RS) (N : Nat) (hI : ImplAt w t f g r) (hG : Good r.L way) (hL : Lim r N) (s : Spot) (lv : Value) (hlv : ∃ A n c, lv = .slice A n c) (dir : Bool)
    (hs : s.n = none → ∃ a, s.up = some a ∧ Live r.L a ∧ (at_ r.L a).f1 = true ∧ whose (at_ r.L a).f3 s.name = none ∧ s.name ≠ ByteArray.empty) :
    Calls Tryz.prog 37 #[.pointer (some ⟨t, 0, none⟩), spotVal f s lv, .bool dir] w (PlanPost w t f g r (iMake r s dir)) := by
  obtain ⟨A, n, c, rfl⟩ := hlv
  obtain ⟨c0, c1, c2⟩ := hI.tree.cells
  have hlt : t < w.heap.size := World.block_lt_of_cell? w _ c0
  obtain ⟨up, nm, sn⟩ := s
  cases sn with
  | some i =>
    simp only [spotVal, ptrO, Option.map_some]
    obtain ⟨pu, hpu⟩ : ∃ pu, pu = up.map fun i => (⟨f i, 0, none⟩ : Addr) := ⟨_, rfl⟩
    rw [← hpu]
    clear hpu
    go_enter Tryz.func37, Tryz.ntmps37
    go_wp2
    go_ret2
    exact PlanPost.bad rfl (by decide) ((((Below.refl _ w).alloc (Nat.le_refl _) _).alloc (by simp) _).alloc (by simp; omega) _)
  | none =>
    obtain ⟨a, hup, ha, had, hno, hnm⟩ := hs rfl
    simp only at hup
    subst hup
    simp only [spotVal, ptrO, Option.map_some, Option.map_none]
    have hD := (hI.node a ha).1 had
    have hgr : ∀ W, Below w.heap.size w W → _ := fun W hW => grows_at (hD.below hW) hL.small (hL.slots a)
    have hsl := hL.slots a
    have hsm := hL.small
    have hbd := growsOf_bd (named (at_ r.L a).f3).length (slotsOf (at_ r.L a).f3) (slotsOf_nonneg _) (by unfold slotsOf; omega)
    obtain ⟨more, hmore⟩ : ∃ m, m = growsOf (named (at_ r.L a).f3).length (slotsOf (at_ r.L a).f3) := ⟨_, rfl⟩
    rw [← hmore] at hgr hbd
    have Hm := Lib.hid hmore
    clear hmore
    have hb0 := hL.bl0
    have hb1 := hL.bl1
    have hb2 := hL.ino0
    have hb3 := hL.ino1
    have hB3 : Below w.heap.size w (((w.alloc (.cells #[.pointer (some ⟨t, 0, none⟩)] 25)).alloc (.cells #[.pointer (some ⟨f a, 0, none⟩), .string nm, .pointer none, .slice A n c] 91)).alloc (.cells #[.bool dir] 4)) :=
      (((Below.refl _ w).alloc (Nat.le_refl _) _).alloc (by simp) _).alloc (by simp; omega) _
    have hq : ∀ (w1 : World) (n1 : Nat), w1 = (((w.alloc (.cells #[.pointer (some ⟨t, 0, none⟩)] 25)).alloc (.cells #[.pointer (some ⟨f a, 0, none⟩), .string nm, .pointer none, .slice A n c] 91)).alloc (.cells #[.bool dir] 4)).drewN n1 →
        w1.heap.size = w.heap.size + 1 + 1 + 1 ∧ w1.cell? ⟨w.heap.size, 0, none⟩ = some (.pointer (some ⟨t, 0, none⟩)) ∧ w1.cell? ⟨t, 1, none⟩ = some (.int .i64 r.bl) ∧ w1.cell? ⟨t, 2, none⟩ = some (.int .i64 r.ino) ∧ Hid (Below w.heap.size w w1 ∧ BoxB w1 w.heap.size (.pointer (some ⟨t, 0, none⟩)) 25 ∧ SpotB w1 (w.heap.size + 1) f ⟨some a, nm, none⟩ (.slice A n c) ∧ BoxB w1 (w.heap.size + 1 + 1) (.bool dir) 4) := by
      rintro w1 n1 rfl
      have b0 : BoxB ((((w.alloc (.cells #[.pointer (some ⟨t, 0, none⟩)] 25)).alloc (.cells #[.pointer (some ⟨f a, 0, none⟩), .string nm, .pointer none, .slice A n c] 91)).alloc (.cells #[.bool dir] 4)).drewN n1) w.heap.size (.pointer (some ⟨t, 0, none⟩)) 25 :=
        (Below.heap_alloc _ _ _ (by simp; omega)).trans ((Below.heap_alloc _ _ _ (by simp)).trans (heap_alloc_new w _))
      have b1 : SpotB ((((w.alloc (.cells #[.pointer (some ⟨t, 0, none⟩)] 25)).alloc (.cells #[.pointer (some ⟨f a, 0, none⟩), .string nm, .pointer none, .slice A n c] 91)).alloc (.cells #[.bool dir] 4)).drewN n1) (w.heap.size + 1) f ⟨some a, nm, none⟩ (.slice A n c) :=
        (Below.heap_alloc _ _ _ (by simp)).trans (by have := heap_alloc_new (w.alloc (.cells #[.pointer (some ⟨t, 0, none⟩)] 25)) (.cells #[.pointer (some ⟨f a, 0, none⟩), .string nm, .pointer none, .slice A n c] 91); rw [World.size_alloc] at this; exact this)
      have b2 : BoxB ((((w.alloc (.cells #[.pointer (some ⟨t, 0, none⟩)] 25)).alloc (.cells #[.pointer (some ⟨f a, 0, none⟩), .string nm, .pointer none, .slice A n c] 91)).alloc (.cells #[.bool dir] 4)).drewN n1) (w.heap.size + 1 + 1) (.bool dir) 4 := by
        have := heap_alloc_new ((w.alloc (.cells #[.pointer (some ⟨t, 0, none⟩)] 25)).alloc (.cells #[.pointer (some ⟨f a, 0, none⟩), .string nm, .pointer none, .slice A n c] 91)) (.cells #[.bool dir] 4)
        rw [World.size_alloc, World.size_alloc] at this; exact this
      have hb := pw_below_drewN hB3 n1
      exact ⟨by simp, b0.cell, (hb.cell (p := ⟨t, 1, none⟩) hlt).trans c1, (hb.cell (p := ⟨t, 2, none⟩) hlt).trans c2, hb, b0, b1, b2⟩
    have hlt3 : t < w.heap.size + 1 + 1 + 1 := by omega
    have hlt4 : ¬ t = w.heap.size + 1 + 1 + 1 := by omega
    have hbm : ∀ (w1 : World) (n2 : Nat), Below w.heap.size w w1 → Below w.heap.size w ((w1.alloc (.cells #[.int .i64 more] 3)).drewN n2) := fun w1 n2 h => pw_below_drewN (h.alloc h.size _) n2
    by_cases hi : r.ino = 0
    · have hib : (r.ino == 0) = true := by simpa using hi
      have Hi := Lib.hid hi
      clear hi
      go_enter Tryz.func37, Tryz.ntmps37
      go_wp2_with (go_at_call 66; refine (hgr _ hB3).mono ?_; rintro e w1 ⟨rfl, n1, hw1⟩; obtain ⟨q0, q1, q2, q3, q4⟩ := hq _ _ hw1; clear hw1)
      go_quiet (fail)
      go_wp2
      go_ret2
      exact PlanPost.bad (by simp [iMake, Hi.out]) (by decide) (hbm w1 _ q4.out.1)
    · have hib : (r.ino == 0) = false := by simpa using hi
      by_cases hmm : more ≤ r.bl
      · have hd : decide (r.bl < more) = false := by simpa using hmm
        have Hi := Lib.hid hi
        have hpos : 0 < r.ino := by omega
        clear hi
        go_enter Tryz.func37, Tryz.ntmps37
        go_wp2_with (go_at_call 66; refine (hgr _ hB3).mono ?_; rintro e w1 ⟨rfl, n1, hw1⟩; obtain ⟨q0, q1, q2, q3, q4⟩ := hq _ _ hw1; clear hw1)
        go_quiet (fail)
        go_wp2
        go_ret2
        obtain ⟨k1, k2, k3, k4⟩ := q4.out
        have hres : iMake r ⟨some a, nm, none⟩ dir = (madeRS r a nm dir more, 0) := by
          simp only [iMake]
          rw [← Hm.out, if_neg (by rintro (h | h) <;> omega)]
        refine ⟨_, by rw [hres]; rfl, hbm w1 _ k1, fun _ => ⟨_, _, rfl, ?_⟩⟩
        rw [hres]
        have hB4 := hbm w1 nq k1
        have hk : Below w1.heap.size w1 ((w1.alloc (.cells #[.int .i64 more] 3)).drewN nq) := pw_below_drewN ((Below.refl _ w1).alloc (Nat.le_refl _) _) nq
        exact acts_make (hI.below hB4) hG hL ha had hnm hno none (.slice A n c) (w.heap.size + 1) (w.heap.size + 1 + 1) w.heap.size (w.heap.size + 1 + 1 + 1) hbd.1 hmm hpos (k3.below hk) (k4.below hk) (k2.below hk) (by have := heap_alloc_new w1 (.cells #[.int .i64 more] 3); rw [q0] at this; exact this)
      · have hd : decide (r.bl < more) = true := by simpa using hmm
        have Hi := Lib.hid hi
        have Hmm := Lib.hid hmm
        clear hi hmm
        go_enter Tryz.func37, Tryz.ntmps37
        go_wp2_with (go_at_call 66; refine (hgr _ hB3).mono ?_; rintro e w1 ⟨rfl, n1, hw1⟩; obtain ⟨q0, q1, q2, q3, q4⟩ := hq _ _ hw1; clear hw1)
        go_quiet (fail)
        go_wp2
        go_ret2
        have hres : iMake r ⟨some a, nm, none⟩ dir = (r, 7) := by
          have := Hmm.out
          simp only [iMake]
          rw [← Hm.out, if_pos (by right; omega)]
        exact PlanPost.bad (by rw [hres]) (by decide) (hbm w1 _ q4.out.1)
end Go.Proofs.YtmjhflmkgmfjkaaGreatDoor
