/- A part of the proof: Y21, Y22, Y23, Y24, Y26. -/
import Derived.Test.YtmjhflmkgmfjkaaGreatDoorYf
import Derived.Test.YtmjhflmkgmfjkaaGreatDoorNe
import Derived.Test.YtmjhflmkgmfjkaaGreatDoorYc
import Derived.Test.YtmjhflmkgmfjkaaGreatDoorYh
import Derived.Test.YtmjhflmkgmfjkaaGreatDoorNd
import Derived.Test.YtmjhflmkgmfjkaaGreatDoorYa
import Derived.Test.YtmjhflmkgmfjkaaGreatDoorYi
set_option linter.unusedVariables false
set_option linter.unusedSimpArgs false
namespace Go.Proofs.YtmjhflmkgmfjkaaGreatDoor
open Go.RowKit Go.Proofs.YtmjhflmkgmfjkaaGreatDoorW.PrintWords Go.Proofs.YtmjhflmkgmfjkaaGreatDoorW.PrintMore
open PTreeTwins (S58 S106 S35 z58 z106 k58 k106)
theorem R_single (W : World) (b : Nat) (h : W.heap[b]? = some (.cells #[.bool true, .bool true, .slice none 0 0, .slice none 0 0] 58 (0, 0))) : k58.R 58 W 0 (fun _ => True) (.slice (some ⟨b, 0, none⟩) 1 1) [(⟨true, true, [], []⟩ : S58)] := by
  refine ⟨fun _ _ => trivial, [.bool true, .bool true, .slice none 0 0, .slice none 0 0], ⟨by simp; rfl, .inr ⟨b, 1, #[.bool true, .bool true, .slice none 0 0, .slice none 0 0], rfl, Nat.zero_le _, h, Nat.le_refl _, by decide, rfl, rfl⟩⟩, ?_⟩
  have := Reps.snoc (Reps.none (k58.M W 0 fun k => (fun x => True) k ∧ some k ≠ (Value.slice (some ⟨b, 0, none⟩) 1 1).ownBlock) k58.sz) (PTreeTwins.k58_mkM W 0 _ ⟨true, true, [], []⟩ (kB_nil _ _) (k106_nil _ _)) rfl
  exact this
set_option maxRecDepth 100000 in
set_option maxHeartbeats 2000000 in
theorem rnew_calls (bl ino : Int) (w : World) (h0 : 0 ≤ bl) (h1 : bl ≤ 16384) (h2 : 1 ≤ ino) (h3 : ino ≤ 256) :
    Calls Tryz.prog 7 #[.int .i64 bl, .int .i64 ino] w fun e w' => ∃ q b, e = .returned (.tuple #[.pointer (some ⟨q, 0, none⟩), .int .i64 0]) ∧ Below w.heap.size w w' ∧ RefAt w' q b (newRS bl ino) ∧ w.heap.size ≤ q ∧ w.heap.size ≤ b := by
  have d1 : decide (bl < 0) = false := by simp; omega
  have d2 : decide (16384 < bl) = false := by simp; omega
  have d3 : decide (ino < 1) = false := by simp; omega
  have d4 : decide (256 < ino) = false := by simp; omega
  go_enter Tryz.func7, Tryz.ntmps7
  go_wp2
  go_ret2
  refine ⟨w.heap.size + 1, w.heap.size, rfl, ?_, ?_, ?_, ?_⟩
  · exact ((Below.refl _ w).alloc (Nat.le_refl _) _).alloc (by simp) _
  · refine ⟨1, ?_, ?_⟩
    · have := heap_alloc_new (w.alloc (.cells #[.bool true, .bool true, .slice none 0 0, .slice none 0 0] 58)) (.cells #[.slice (some ⟨w.heap.size, 0, none⟩) 1 1, .int .i64 bl, .int .i64 (ino - 1)] 61)
      simpa [RBox, newRS] using this
    · exact R_single _ _ ((Below.heap_alloc _ _ _ (by simp)).trans (heap_alloc_new w _))
  · exact Nat.le_succ _
  · exact Nat.le_refl _
set_option maxRecDepth 100000 in
set_option maxHeartbeats 2000000 in
theorem rinfo_calls (w : World) (q b : Nat) (r : RS) (h : RefAt w q b r) {N : Nat} (hL : Lim r N) (i : Nat) (hi : i < r.L.length) :
    Calls Tryz.prog 88 #[.pointer (some ⟨q, 0, none⟩), .int .i64 i] w fun e w' => e = .returned (infoV (at_ r.L i)) ∧ Below w.heap.size w w' := by
  obtain ⟨cap, hbox, hrow⟩ := h.row
  obtain ⟨c0, c1, c2⟩ := hbox.cells
  obtain ⟨v2, v3, e0, e1, e2, e3, hv2, hv3, hfz⟩ := ref_elem hrow i hi
  obtain ⟨A2, k2, rfl, hk2, hC2⟩ := Kd.R_reads hv2
  obtain ⟨A3, k3, rfl, hk3, hC3⟩ := Kd.R_reads hv3
  have hl3 := hL.slots i
  have hl2 := hL.data i
  have hsm := hL.small
  have hqlt := hbox.lt
  have hblt := h.row_lt
  have hil : (i : Int) < (r.L.length : Int) := by omega
  have hnm := fun W (hW : Below w.heap.size w W) => rnames_calls A3 k3 (at_ r.L i).f3 W (Kd.C_below hC3 hW) hk3 (by omega)
  have hnl : (named (at_ r.L i).f3).length ≤ (at_ r.L i).f3.length := List.length_filter_le _ _
  cases hd : (at_ r.L i).f1
  · have hi2 : infoV (at_ r.L i) = .agg #[.bool false, .int .i64 ((at_ r.L i).f2.length : Int), .int .i64 0] := by unfold infoV sizeN kidsN; rw [hd]; rfl
    rw [hi2]
    rw [hd] at e1
    clear h hbox hrow hv2 hv3 hC2 hC3 hnm
    generalize (at_ r.L i).f3.length = n3 at *
    generalize (at_ r.L i).f2.length = n2 at *
    generalize (named (at_ r.L i).f3).length = nn at *
    generalize r.L.length = nL at *
    go_enter Tryz.func88, Tryz.ntmps88
    go_wp2
    have hz : (w.alloc (.cells #[.bool false, .int .i64 (n2 : Int), .int .i64 0] 76)).heap[w.heap.size]? = some (.cells #[.bool false, .int .i64 (n2 : Int), .int .i64 0] 76 (0, 0)) := heap_alloc_new w _
    have hB : Below w.heap.size w (w.alloc (.cells #[.bool false, .int .i64 (n2 : Int), .int .i64 0] 76)) := (Below.refl _ w).alloc (Nat.le_refl _) _
    generalize w.alloc (.cells #[.bool false, .int .i64 (n2 : Int), .int .i64 0] 76) = W at *
    have z := fun o => (by simp [World.cell?, hz] : W.cell? ⟨w.heap.size, o, none⟩ = (#[.bool false, .int .i64 (n2 : Int), .int .i64 0] : Array Value)[o]?)
    have z0 := z 0
    have z1 := z 1
    have z2 := z 2
    simp at z0 z1 z2
    refine bodyPost_ret (v := .agg #[.bool false, .int .i64 (n2 : Int), .int .i64 0]) (by simp [results, Tryz.results88, go_sem, z0, z1, z2]) rfl ⟨rfl, hB⟩
  · have hi2 : infoV (at_ r.L i) = .agg #[.bool true, .int .i64 0, .int .i64 ((named (at_ r.L i).f3).length : Int)] := by unfold infoV sizeN kidsN; rw [hd]; rfl
    rw [hi2]
    rw [hd] at e1
    clear h hbox hrow hv2 hv3 hC2 hC3
    generalize (at_ r.L i).f3.length = n3 at *
    generalize (at_ r.L i).f2.length = n2 at *
    generalize (named (at_ r.L i).f3).length = nn at *
    generalize r.L.length = nL at *
    go_enter Tryz.func88, Tryz.ntmps88
    go_wp2_with (first
      | (go_at_call 50; refine (hnm _ (by exact (Below.refl _ w).alloc (Nat.le_refl _) _)).mono ?_; rintro e w1 ⟨A', c', rfl, _, _, hb1⟩
         have hz1 : w1.heap[w.heap.size]? = some (.cells #[.bool false, .int .i64 0, .int .i64 0] 76 (0, 0)) := (hb1.block _ (by simp)).trans (heap_alloc_new w _)
         have g0 : w1.cell? ⟨w.heap.size, 0, none⟩ = some (.bool false) := by simp [World.cell?, hz1]
         have g1 : w1.cell? ⟨w.heap.size, 1, none⟩ = some (.int .i64 0) := by simp [World.cell?, hz1]
         have g2 : w1.cell? ⟨w.heap.size, 2, none⟩ = some (.int .i64 0) := by simp [World.cell?, hz1]
         have g3 : ∀ o, w1.frozen? ⟨w.heap.size, o, none⟩ = false := fun o => by simp [World.frozen?, hz1]
         have f0 := g3 0
         have f1 := g3 1
         have f2 := g3 2
         have hB1 : Below w.heap.size w w1 := ((Below.refl _ w).alloc (Nat.le_refl _) _).trans (hb1.mono (by simp))))
    have hB2 : Below w.heap.size w (((w1.setCell ⟨w.heap.size, 0, none⟩ (.bool true)).setCell ⟨w.heap.size, 1, none⟩ (.int .i64 0)).setCell ⟨w.heap.size, 2, none⟩ (.int .i64 (nn : Int))) := below_set (below_set (below_set hB1 (Nat.le_refl _)) (Nat.le_refl _)) (Nat.le_refl _)
    have hz2 : (((w1.setCell ⟨w.heap.size, 0, none⟩ (.bool true)).setCell ⟨w.heap.size, 1, none⟩ (.int .i64 0)).setCell ⟨w.heap.size, 2, none⟩ (.int .i64 (nn : Int))).heap[w.heap.size]? = some (.cells #[.bool true, .int .i64 0, .int .i64 (nn : Int)] 76 (0, 0)) := by
      simp [World.setCell, Array.getElem?_modify, hz1]
    generalize (((w1.setCell ⟨w.heap.size, 0, none⟩ (.bool true)).setCell ⟨w.heap.size, 1, none⟩ (.int .i64 0)).setCell ⟨w.heap.size, 2, none⟩ (.int .i64 (nn : Int))) = W at *
    have z := fun o => (by simp [World.cell?, hz2] : W.cell? ⟨w.heap.size, o, none⟩ = (#[.bool true, .int .i64 0, .int .i64 (nn : Int)] : Array Value)[o]?)
    have z0 := z 0
    have z1 := z 1
    have z2 := z 2
    simp at z0 z1 z2
    refine bodyPost_ret (v := .agg #[.bool true, .int .i64 0, .int .i64 (nn : Int)]) (by simp [results, Tryz.results88, go_sem, z0, z1, z2]) rfl ⟨rfl, hB2⟩
end Go.Proofs.YtmjhflmkgmfjkaaGreatDoor
namespace Go.Proofs.YtmjhflmkgmfjkaaGreatDoor
open Go.RowKit Go.Proofs.YtmjhflmkgmfjkaaGreatDoorW.PrintWords Go.Proofs.YtmjhflmkgmfjkaaGreatDoorW.PrintMore
open PTreeTwins (S58 S106 S35 z58 z106 k58 k106)
set_option maxRecDepth 100000 in
set_option maxHeartbeats 2000000 in
theorem rtwin_calls (w : World) (q b : Nat) (r : RS) (h : RefAt w q b r) (hpos : 0 < r.L.length) (hlen : r.L.length ≤ 100000) :
    Calls Tryz.prog 12 #[.pointer (some ⟨q, 0, none⟩)] w fun e w' => ∃ q' b', e = .returned (.pointer (some ⟨q', 0, none⟩)) ∧ Below w.heap.size w w' ∧ RefAt w' q' b' r ∧ w.heap.size ≤ q' ∧ w.heap.size ≤ b' := by
  obtain ⟨cap, hbox, hrow⟩ := h.row
  obtain ⟨c0, c1, c2⟩ := hbox.cells
  have hrM := R_readsM (hrow)
  have HM := Lib.hid hrM
  have hqlt := hbox.lt
  have hblt := h.row_lt
  have HPOS := Lib.hid hpos
  have HLEN := Lib.hid hlen
  have hoE : k58.R 58 (w.alloc (.cells #[] 58)).drew 0 (fun _ => True) (.slice (some ⟨w.heap.size, 0, none⟩) 0 0) [] := Kd.R_lower (R_empty w 58 k58) (Nat.zero_le _)
  have hbE : Below w.heap.size w (w.alloc (.cells #[] 58)).drew := ((Below.refl _ w).alloc (Nat.le_refl _) _).drew
  have hmx : r.L.length ≤ cap := (Kd.R_reads' hrow).2.1
  clear h hbox hrow hrM hpos
  generalize hnL : r.L.length = nL at *
  have HnL := Lib.hid hnL
  clear hnL
  go_enter Tryz.func12, Tryz.ntmps12
  go_wp2
  go_region_held3 (fun W' => W'.cell? ⟨q, 0, none⟩ = some (.slice (some ⟨b, 0, none⟩) nL cap) ∧ W'.cell? ⟨q, 1, none⟩ = some (.int .i64 r.bl) ∧ W'.cell? ⟨q, 2, none⟩ = some (.int .i64 r.ino))
    (first | go_keep | assumption)
    (first
      | (refine Kd.R_append_rows_step k58 (Rr := k58.M w 0 (fun k => True ∧ k < w.heap.size)) (w0 := w) 0 ?hg _ _ 59 58 (.agg #[.bool false, .bool false, .slice none 0 0, .slice none 0 0]) 56 rfl Tryz.underlying59 info_58 rfl (by decide) (by decide) (.slice (some ⟨w.heap.size, 0, none⟩) 0 0) [] r.L (some ⟨b, 0, none⟩) nL cap (fun _ => True) (fun k => True ∧ k < w.heap.size) rfl rfl hoE ?hR ?hK ?hok (fun _ _ => trivial) ?hB (Nat.zero_le _) ?hl ?_
         (case hg => rfl)
         (case hR => exact ReadsRow.imp_ HM.out hbE (fun _ _ hp => hp))
         (case hK => intro x cs hx; exact Kd.M_below hx hbE)
         (case hok => intro k hk; exact ⟨trivial, fun e => by simp [Value.ownBlock, Act.eval] at e; omega⟩)
         (case hB => exact hbE.mono (Nat.zero_le _))
         (case hl => have := HnL.out; simp; omega)
         intro v1 w1 ho1 hb1 hg1 ha1
         obtain ⟨A1, c1', rfl, _, _⟩ := Kd.R_reads ho1
         have hB1 : Below w.heap.size w w1 := Below.grown (hg := hg1) (h := hbE) (by simp) (fun k hk => by simp [Value.ownBlock, Act.eval] at hk; omega)
         have hS1 : w1.cell? ⟨q, 0, none⟩ = some (.slice (some ⟨b, 0, none⟩) nL cap) ∧ w1.cell? ⟨q, 1, none⟩ = some (.int .i64 r.bl) ∧ w1.cell? ⟨q, 2, none⟩ = some (.int .i64 r.ino) := ⟨(hB1.cell (p := ⟨q, 0, none⟩) hqlt).trans c0, (hB1.cell (p := ⟨q, 1, none⟩) hqlt).trans c1, (hB1.cell (p := ⟨q, 2, none⟩) hqlt).trans c2⟩))
  all_goals
    go_wp2
    go_ret
    simp only [List.nil_append] at ho1
    obtain ⟨g, _, eA, _, _, cells, hcs⟩ := Kd.R_form ho1 (by rw [HnL.out]; exact HPOS.out)
    cases eA
    have hgl : w.heap.size ≤ g := by
      rcases ha1 with e | ⟨b', e, hle⟩
      · simp [Value.ownBlock, Act.eval] at e; omega
      · simp [Value.ownBlock] at e hle; omega
    have hg1' : g < w1.heap.size := (Array.getElem?_eq_some_iff.1 hcs).1
    have hB2 : Below w1.heap.size w1 (w1.alloc (.cells #[.slice (some ⟨g, 0, none⟩) r.L.length c1', .int .i64 r.bl, .int .i64 r.ino] 61)) := (Below.refl _ w1).alloc (Nat.le_refl _) _
    refine ⟨w1.heap.size, g, rfl, hB1.trans (hB2.mono hB1.size), ⟨c1', ?_, ?_⟩, hB1.size, hgl⟩
    · exact heap_alloc_new w1 _
    · exact Kd.R_below ho1 hB2
end Go.Proofs.YtmjhflmkgmfjkaaGreatDoor
namespace Go.Proofs.YtmjhflmkgmfjkaaGreatDoor
open Go.RowKit Go.Maps Go.Sort Go.Proofs.YtmjhflmkgmfjkaaGreatDoorW.PrintWords Go.Proofs.YtmjhflmkgmfjkaaGreatDoorW.PrintMore
open PTreeTwins (S58 S106 S35 z58 z106)
theorem lessB_iff (x n : ByteArray) : lessB x n = decide (x.data.toList < n.data.toList) := by
  unfold lessB
  rw [bytesLess_eq, ByteArray.toList_eq, ByteArray.toList_eq]
theorem insN_mem (n : ByteArray) (l : List ByteArray) (y : ByteArray) : y ∈ insN n l ↔ y = n ∨ y ∈ l := by
  rw [(insN_perm n l).mem_iff]; simp
theorem insN_sorted (n : ByteArray) : ∀ l : List ByteArray, l.Pairwise (fun a b => a.data.toList ≤ b.data.toList) → (insN n l).Pairwise (fun a b => a.data.toList ≤ b.data.toList)
  | [], _ => by simp [insN]
  | x :: l, h => by
    unfold insN
    rw [List.pairwise_cons] at h
    by_cases hx : x.data.toList < n.data.toList
    · rw [if_pos (by rw [lessB_iff]; exact decide_eq_true hx), List.pairwise_cons]
      refine ⟨fun y hy => ?_, insN_sorted n l h.2⟩
      rcases (insN_mem n l y).1 hy with rfl | hy
      · exact List.le_of_lt hx
      · exact h.1 y hy
    · rw [if_neg (by rw [lessB_iff]; simpa using hx), List.pairwise_cons, List.pairwise_cons]
      have hn : n.data.toList ≤ x.data.toList := List.not_lt.1 hx
      refine ⟨fun y hy => ?_, h.1, h.2⟩
      rcases List.mem_cons.1 hy with rfl | hy
      · exact hn
      · exact List.le_trans hn (h.1 y hy)
theorem insAll_sorted : ∀ (s : List S106) (acc : List ByteArray), acc.Pairwise (fun a b => a.data.toList ≤ b.data.toList) → (s.foldl (fun acc e => insN e.f0 acc) acc).Pairwise (fun a b => a.data.toList ≤ b.data.toList) ∧ (s.foldl (fun acc e => insN e.f0 acc) acc).Perm (s.map (·.f0) ++ acc)
  | [], acc, h => ⟨h, List.Perm.refl _⟩
  | e :: s, acc, h => by
    obtain ⟨h1, h2⟩ := insAll_sorted s (insN e.f0 acc) (insN_sorted _ _ h)
    refine ⟨h1, h2.trans ?_⟩
    refine ((insN_perm e.f0 acc).append_left _).trans ?_
    simp only [List.map_cons, List.cons_append]
    exact List.perm_middle
/-- both sides read a directory's names in one order -/
theorem namesOf_eq (s : List S106) : namesOf s = sortB ((named s).map (·.f0)) := by
  obtain ⟨h1, h2⟩ := insAll_sorted (named s) [] List.Pairwise.nil
  rw [List.append_nil] at h2
  unfold sortB
  have h3 : (namesOf s).map (fun b => b.data.toList) = (((named s).map (·.f0)).map fun b => b.data.toList).mergeSort leB := by
    refine List.Perm.eq_of_pairwise (le := fun a b => leB a b = true) ?_ ?_ ?_ ?_
    · intro a b _ _ hab hba
      exact List.le_antisymm (of_decide_eq_true hab) (of_decide_eq_true hba)
    · rw [List.pairwise_map]
      exact h1.imp fun hab => decide_eq_true hab
    · have tr : ∀ a b c : List UInt8, leB a b = true → leB b c = true → leB a c = true := fun a b c h1 h2 => by simp only [leB, decide_eq_true_eq] at *; exact List.le_trans h1 h2
      have tl : ∀ a b : List UInt8, (leB a b || leB b a) = true := fun a b => by simp only [leB, Bool.or_eq_true, decide_eq_true_eq]; exact List.le_total a b
      exact List.pairwise_mergeSort tr tl _
    · exact (h2.map _).trans (List.mergeSort_perm _ _).symm
  rw [← h3, List.map_map]
  have : ((fun x : List UInt8 => (⟨x.toArray⟩ : ByteArray)) ∘ fun b : ByteArray => b.data.toList) = id := by
    funext b
    simp
  rw [this, List.map_id]
/-- what a walk gives lies below its root -/
theorem walkN_mem {L : List S58} {way : Nat → List ByteArray} (hG : Good L way) : ∀ (d i : Nat) (p : ByteArray), Live L i → ∀ x ∈ walkN d L i p, Live L x.2 ∧ ∃ n s, way x.2 = way i ++ n :: s
  | 0, _, _, _, x, hx => by simp [walkN] at hx
  | d + 1, i, p, hi, x, hx => by
    unfold walkN at hx
    obtain ⟨n, hn, hx⟩ := List.mem_flatMap.1 hx
    cases hw : whose (at_ L i).f3 n with
    | none => rw [hw] at hx; simp at hx
    | some k =>
      rw [hw] at hx
      obtain ⟨hk, hwk, _⟩ := kid_ne hG hi hw
      rcases List.mem_cons.1 hx with rfl | hx
      · exact ⟨hk, n, [], hwk⟩
      · obtain ⟨h1, m, s, h2⟩ := walkN_mem hG d k _ hk x hx
        exact ⟨h1, n, m :: s, by rw [h2, hwk, List.append_assoc]; rfl⟩
theorem walkN_nodup {L : List S58} {way : Nat → List ByteArray} (hG : Good L way) : ∀ (d i : Nat) (p : ByteArray), Live L i → ((walkN d L i p).map (·.2)).Nodup
  | 0, _, _, _ => by simp [walkN]
  | d + 1, i, p, hi => by
    unfold walkN
    rw [List.map_flatMap, List.Nodup, List.pairwise_flatMap]
    have hnd : (sortB ((named (at_ L i).f3).map (·.f0))).Nodup := (sortB_perm _).nodup_iff.2 (hG.names i hi)
    refine ⟨fun n hn => ?_, ?_⟩
    · cases hw : whose (at_ L i).f3 n with
      | none => simp
      | some k =>
        obtain ⟨hk, hwk, _⟩ := kid_ne hG hi hw
        simp only [List.map_cons]
        refine List.nodup_cons.2 ⟨fun hm => ?_, walkN_nodup hG d k _ hk⟩
        obtain ⟨x, hx, e⟩ := List.mem_map.1 hm
        obtain ⟨_, m, s, h2⟩ := walkN_mem hG d k _ hk x hx
        rw [e] at h2
        have := congrArg List.length h2
        simp at this
    · refine hnd.imp ?_
      intro n1 n2 hne x hx y hy e
      subst e
      have hat : ∀ n : ByteArray, x ∈ ((match whose (at_ L i).f3 n with | some k => (joinP p n, k) :: walkN d L k (joinP p n) | none => []) : List (ByteArray × Nat)).map (·.2) → ∃ s, way x = way i ++ n :: s := by
        intro n hx
        cases hw : whose (at_ L i).f3 n with
        | none => rw [hw] at hx; simp at hx
        | some k =>
          rw [hw] at hx
          obtain ⟨hk, hwk, _⟩ := kid_ne hG hi hw
          obtain ⟨z, hz, rfl⟩ := List.mem_map.1 hx
          rcases List.mem_cons.1 hz with rfl | hz
          · exact ⟨[], hwk⟩
          · obtain ⟨_, m, s, h2⟩ := walkN_mem hG d k _ hk z hz
            exact ⟨m :: s, by rw [h2, hwk, List.append_assoc]; rfl⟩
      obtain ⟨s1, h1⟩ := hat n1 hx
      obtain ⟨s2, h2⟩ := hat n2 hy
      rw [h1] at h2
      have := List.append_cancel_left h2
      injection this with h _
      exact hne h
theorem walkN_length {L : List S58} {way : Nat → List ByteArray} (hG : Good L way) (d i : Nat) (p : ByteArray) (hi : Live L i) : (walkN d L i p).length ≤ L.length := by
  have h1 := walkN_nodup hG d i p hi
  have h2 : (walkN d L i p).map (·.2) ⊆ List.range L.length := fun k hk => by
    obtain ⟨x, hx, rfl⟩ := List.mem_map.1 hk
    exact List.mem_range.2 (live_lt (walkN_mem hG d i p hi x hx).1)
  have := List.Nodup.length_le_of_subset h1 h2
  simpa using this
end Go.Proofs.YtmjhflmkgmfjkaaGreatDoor
namespace Go.Proofs.YtmjhflmkgmfjkaaGreatDoor
open Go.RowKit Go.Proofs.YtmjhflmkgmfjkaaGreatDoorW.PrintWords Go.Proofs.YtmjhflmkgmfjkaaGreatDoorW.PrintMore
open PTreeTwins (S58 S106 S35 z58 z106 k58 k106)
set_option maxRecDepth 100000 in
set_option maxHeartbeats 2000000 in
theorem of_calls (w : World) (k : Int) (p p2 : ByteArray) (A : Option Addr) (n c : Nat) (m : Int) :
    Calls Tryz.prog 10 #[opVal k p p2 A n c m] w fun e w' => e = .returned (opVal k p p2 A n c m) ∧ Below w.heap.size w w' := by
  unfold opVal
  go_enter Tryz.func10, Tryz.ntmps10
  go_wp2
  have hz : ((w.alloc (.cells #[.int .i64 k, .string p, .string p2, .slice A n c, .int .i64 m] 35)).alloc (.cells #[.int .i64 k, .string p, .string p2, .slice A n c, .int .i64 m] 37)).heap[w.heap.size + 1]? = some (.cells #[.int .i64 k, .string p, .string p2, .slice A n c, .int .i64 m] 37 (0, 0)) := by
    have := heap_alloc_new (w.alloc (.cells #[.int .i64 k, .string p, .string p2, .slice A n c, .int .i64 m] 35)) (.cells #[.int .i64 k, .string p, .string p2, .slice A n c, .int .i64 m] 37)
    rwa [World.size_alloc] at this
  have hB : Below w.heap.size w ((w.alloc (.cells #[.int .i64 k, .string p, .string p2, .slice A n c, .int .i64 m] 35)).alloc (.cells #[.int .i64 k, .string p, .string p2, .slice A n c, .int .i64 m] 37)) := ((Below.refl _ w).alloc (Nat.le_refl _) _).alloc (by simp) _
  generalize ((w.alloc (.cells #[.int .i64 k, .string p, .string p2, .slice A n c, .int .i64 m] 35)).alloc (.cells #[.int .i64 k, .string p, .string p2, .slice A n c, .int .i64 m] 37)) = W at *
  have z := fun o => (by simp [World.cell?, hz] : W.cell? ⟨w.heap.size + 1, o, none⟩ = (#[.int .i64 k, .string p, .string p2, .slice A n c, .int .i64 m] : Array Value)[o]?)
  have z0 := z 0
  have z1 := z 1
  have z2 := z 2
  have z3 := z 3
  have z4 := z 4
  simp at z0 z1 z2 z3 z4
  refine bodyPost_ret (v := .agg #[.int .i64 k, .string p, .string p2, .slice A n c, .int .i64 m]) (by simp [results, Tryz.results10, go_sem, z0, z1, z2, z3, z4]) rfl ⟨rfl, hB⟩
end Go.Proofs.YtmjhflmkgmfjkaaGreatDoor
namespace Go.Proofs.YtmjhflmkgmfjkaaGreatDoor
open Go.RowKit Go.Proofs.YtmjhflmkgmfjkaaGreatDoorW.PrintWords Go.Proofs.YtmjhflmkgmfjkaaGreatDoorW.PrintMore
open PTreeTwins (S58 S106 S35 S76 S78 z58 z106 z78 k58 k106 k78)
/-- the row of thing k at path p -/
def rowOf (L : List S58) (x : ByteArray × Nat) : S78 := ⟨x.1, ⟨(at_ L x.2).f1, sizeN (at_ L x.2), kidsN (at_ L x.2)⟩, strOfNums (at_ L x.2).f2⟩
/-- the rows of one name of a directory -/
def stepN (d : Nat) (L : List S58) (i : Nat) (p n : ByteArray) : List (ByteArray × Nat) := match whose (at_ L i).f3 n with
  | some k => (joinP p n, k) :: walkN d L k (joinP p n)
  | none => []
theorem walkN_step (d : Nat) (L : List S58) (i : Nat) (p : ByteArray) : walkN (d + 1) L i p = (namesOf (at_ L i).f3).flatMap (stepN d L i p) := by
  rw [namesOf_eq]; rfl
/-- what rows leaves: a longer row, in its old block or a new one; nothing else written -/
structure RowsPost (w w' : World) (B : Nat) (v v' : Value) (l : List S78) : Prop where
  row : k78.R 78 w' B (fun _ => True) v' l
  keep : Keeps (fun k => v.ownBlock = some k) w w'
  own : v'.ownBlock = v.ownBlock ∨ ∀ k, v'.ownBlock = some k → w.heap.size ≤ k
theorem RowsPost.trans {w w1 w2 : World} {B : Nat} {v v1 v2 : Value} {l1 l2 : List S78} (h1 : RowsPost w w1 B v v1 l1) (h2 : RowsPost w1 w2 B v1 v2 l2) : RowsPost w w2 B v v2 l2 where
  row := h2.row
  keep := h1.keep.then_ h2.keep (fun k hk => by
    rcases h1.own with e | e
    · exact .inl (e ▸ hk)
    · exact .inr (e k hk))
  own := by
    rcases h2.own with e | e
    · rw [e]; exact h1.own
    · exact .inr fun k hk => Nat.le_trans h1.keep.size (e k hk)
theorem RowsPost.drewN {w w1 : World} {B : Nat} {v v1 : Value} {l1 : List S78} (h : RowsPost w w1 B v v1 l1) (n : Nat) : RowsPost w (w1.drewN n) B v v1 l1 where
  row := Kd.R_drewN h.row n
  keep := h.keep.drewN n
  own := h.own
theorem RowsPost.appended {w w1 w2 : World} {B : Nat} {v v2 : Value} {l2 : List S78} (hb : Below w.heap.size w w1) (hg : w1.grownBy w2 v.ownBlock) (hr : k78.R 78 w2 B (fun _ => True) v2 l2) (ho : v2.ownBlock = v.ownBlock ∨ ∃ b, v2.ownBlock = some b ∧ w1.heap.size ≤ b) : RowsPost w w2 B v v2 l2 where
  row := hr
  keep := (Keeps.of_below hb).grown hg (fun k hk => .inl hk)
  own := ho.imp id fun ⟨b, e, hle⟩ k hk => by
    rw [e] at hk
    injection hk with hk
    subst hk
    exact Nat.le_trans hb.size hle
theorem walkN_file {L : List S58} {way : Nat → List ByteArray} (hG : Good L way) (d : Nat) {i : Nat} (hi : Live L i) (h : (at_ L i).f1 = false) (p : ByteArray) : walkN d L i p = [] := by
  cases d with
  | zero => rfl
  | succ d =>
    rw [walkN_step, hG.file i hi h]
    rfl
theorem RowsPost.from_ {w w1 w2 : World} {B : Nat} {v v2 : Value} {l2 : List S78} (hb : Below w.heap.size w w1) (h2 : RowsPost w1 w2 B v v2 l2) : RowsPost w w2 B v v2 l2 where
  row := h2.row
  keep := (Keeps.of_below hb).trans h2.keep
  own := h2.own.imp id fun e k hk => Nat.le_trans hb.size (e k hk)
end Go.Proofs.YtmjhflmkgmfjkaaGreatDoor
