/- A part of the proof: N14. -/
import Derived.Test.YtmjhflmkgmfjkaaGreatDoorNd
import Derived.Test.YtmjhflmkgmfjkaaGreatDoorAh
set_option linter.unusedVariables false
set_option linter.unusedSimpArgs false
namespace Go.Proofs.YtmjhflmkgmfjkaaGreatDoor
open Go.RowKit Go.Shelf Go.Maps Go.Sort Go.Proofs.YtmjhflmkgmfjkaaGreatDoorW.PrintWords Go.Proofs.YtmjhflmkgmfjkaaGreatDoorW.PrintMore
open PTreeTwins (S58 S106 S35 z58 z106)
set_option maxRecDepth 100000 in
set_option maxHeartbeats 1000000 in
theorem list_calls (w : World) (t : Nat) (f g : Nat → Nat) (way : Nat → List ByteArray) (r : RS) (hI : ImplAt w t f g r) (hG : Good r.L way) (p : ByteArray) (i : Nat) (hp : lookOf r.L p = (some i, 0)) (hd : (at_ r.L i).f1 = true)
    (hs1 : (named (at_ r.L i).f3).length ≤ 100000) (hs2 : ∀ e ∈ named (at_ r.L i).f3, e.f0.size ≤ 100000) :
    Calls Tryz.prog 17 #[.pointer (some ⟨t, 0, none⟩), .string p] w fun e w' => ∃ A c, e = .returned (.tuple #[.slice A (named (at_ r.L i).f3).length c, .int .i64 0]) ∧ Below w.heap.size w w' := by
  have hlook := look_calls w t f g way r hI hG p
  rw [hp] at hlook
  simp only [ptrO, Option.map_some] at hlook
  have hi : Live r.L i := (lookOf_live hG (by rw [hp])).1
  have hN : ∀ W, Below w.heap.size w W → DirAt W (f i) (g i) (at_ r.L i) f := fun W hW => ((hI.node i hi).below hW).1 hd
  go_enter Tryz.func17, Tryz.ntmps17
  go_wp2_with (first
    | (go_at_call 30; refine hlook.mono ?_; rintro e w1 ⟨rfl, hb1⟩
       obtain ⟨hn1, kv, hm1, hp1⟩ := hN w1 hb1
       obtain ⟨x0, x1, x2, x3⟩ := hn1.cells
       have hsort := sorted_calls w1 (g i) kv hm1 (by rw [hp1.length_eq]; simpa using hs1) (fun q hq => by
         obtain ⟨e, he, rfl⟩ := List.mem_map.1 (hp1.mem_iff.1 hq)
         exact hs2 e he)
       have hln : (sortB (akeys kv)).length = (named (at_ r.L i).f3).length := by
         rw [(sortB_perm _).length_eq]
         simpa [akeys] using hp1.length_eq
       rw [hln] at hsort)
    | (go_at_call 34; refine (keys_calls _ _).mono ?_; rintro e w2 ⟨rfl, rfl⟩)
    | (go_at_call 33; refine hsort.mono ?_; rintro e w3 ⟨A, c, rfl, _, _, _, hb3⟩))
  go_ret2
  exact ⟨A, c, rfl, hb1.trans (hb3.mono hb1.size)⟩
/-- an empty tree -/
def newRS (bl ino : Int) : RS := { L := [⟨true, true, [], []⟩], bl := bl, ino := ino - 1 }
theorem new_live (bl ino : Int) (i : Nat) : Live (newRS bl ino).L i ↔ i = 0 := by
  constructor
  · intro h
    have := live_lt h
    simp [newRS] at this
    exact this
  · rintro rfl; rfl
theorem new_good (bl ino : Int) : Good (newRS bl ino).L (fun _ => []) := by
  have h0 : at_ (newRS bl ino).L 0 = ⟨true, true, [], []⟩ := rfl
  refine ⟨⟨rfl, rfl, rfl⟩, fun i hi e he => ?_, fun i j hi hj _ => ?_, fun j hj h => ?_, fun i hi => ?_, fun i hi hd => ?_, fun i hi hd => ?_⟩
  · rw [new_live] at hi; subst hi; rw [h0] at he; cases he
  · rw [new_live] at hi hj; rw [hi, hj]
  · rw [new_live] at hj; exact absurd hj h
  · rw [new_live] at hi; subst hi; rw [h0]; exact List.nodup_nil
  · rw [new_live] at hi; subst hi; rw [h0] at hd; cases hd
  · rw [new_live] at hi; subst hi; rfl
theorem new_lim (bl ino : Int) (h0 : 0 ≤ bl) (h1 : bl ≤ 20000) (h2 : 1 ≤ ino) (h3 : ino ≤ 1000) : Lim (newRS bl ino) 0 := by
  have ha : ∀ i, at_ (newRS bl ino).L i = ⟨true, true, [], []⟩ ∨ at_ (newRS bl ino).L i = z58 := fun i => by
    cases i with
    | zero => exact .inl rfl
    | succ i => right; simp [at_, newRS]
  refine ⟨by omega, fun i => ?_, by simp [newRS], fun i => ?_, h0, by simp [newRS]; omega, by simp [newRS]; omega, by simp [newRS]; omega⟩
  · rcases ha i with h | h <;> rw [h] <;> simp [z58]
  · rcases ha i with h | h <;> rw [h] <;> simp [z58]
set_option maxRecDepth 100000 in
set_option maxHeartbeats 1000000 in
theorem new_calls (bl ino : Int) (w : World) (h0 : 0 ≤ bl) (h1 : bl ≤ 16384) (h2 : 1 ≤ ino) (h3 : ino ≤ 256) :
    Calls Tryz.prog 6 #[.int .i64 bl, .int .i64 ino] w fun e w' => ∃ t f g, e = .returned (.tuple #[.pointer (some ⟨t, 0, none⟩), .int .i64 0]) ∧ Below w.heap.size w w' ∧ ImplAt w' t f g (newRS bl ino) ∧ ∀ k, Own t f g (newRS bl ino).L k → w.heap.size ≤ k := by
  have d1 : decide (bl < 0) = false := by simp; omega
  have d2 : decide (16384 < bl) = false := by simp; omega
  have d3 : decide (ino < 1) = false := by simp; omega
  have d4 : decide (256 < ino) = false := by simp; omega
  go_enter Tryz.func6, Tryz.ntmps6
  go_wp2_with (first | (go_at_call 19; refine (fresh_dir _).mono ?_; rintro e w' ⟨rfl, rfl⟩))
  go_ret2
  refine ⟨w.heap.size + 1 + 1, fun _ => w.heap.size, fun _ => w.heap.size + 1, rfl, ?_, ⟨?_, fun i hi => ?_, fun i j hi hj _ => ?_, fun i j hi hj _ _ _ => ?_⟩, fun k hk => ?_⟩
  · exact (((Below.refl _ w).alloc (Nat.le_refl _) _).alloc (by simp) _).alloc (by simp; omega) _
  · have := heap_alloc_new ((w.alloc (.cells #[.bool true, .slice none 0 0, .map (some (w.heap.size + 1)), .int .i64 0] 85)).alloc (.map #[] 0)) (.cells #[.pointer (some ⟨w.heap.size, 0, none⟩), .int .i64 bl, .int .i64 (ino - 1)] 55)
    simpa [TreeB, newRS] using this
  · rw [new_live] at hi; subst hi
    have hs : slotsOf (at_ (newRS bl ino).L 0).f3 = 0 := by show slotsOf ([] : List S106) = 0; unfold slotsOf; simp
    refine ⟨fun _ => ⟨?_, [], ?_, List.Perm.refl _⟩, fun h => by cases h⟩
    · rw [hs]
      exact (Below.heap_alloc _ _ _ (by simp; omega)).trans ((Below.heap_alloc _ _ _ (by simp)).trans (heap_alloc_new w _))
    · have := MapB.made (w.alloc (.cells #[.bool true, .slice none 0 0, .map (some (w.heap.size + 1)), .int .i64 0] 85))
      rw [World.size_alloc] at this
      exact this.of_block (Below.heap_alloc _ _ _ (by simp))
  · rw [new_live] at hi hj; rw [hi, hj]
  · rw [new_live] at hi hj; rw [hi, hj]
  · rcases hk with rfl | ⟨i, hi, rfl | ⟨_, rfl⟩⟩
    · omega
    · exact Nat.le_refl _
    · exact Nat.le_succ _
end Go.Proofs.YtmjhflmkgmfjkaaGreatDoor
