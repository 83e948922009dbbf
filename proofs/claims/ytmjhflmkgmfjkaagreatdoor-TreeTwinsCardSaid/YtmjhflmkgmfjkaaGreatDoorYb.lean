/- A part of the proof: Y8. -/
import Derived.Test.YtmjhflmkgmfjkaaGreatDoorYa
import Derived.Deep.RegionHeld3
set_option linter.unusedVariables false
set_option linter.unusedSimpArgs false
namespace Go.Proofs.YtmjhflmkgmfjkaaGreatDoor
open Go.RowKit Go.Proofs.YtmjhflmkgmfjkaaGreatDoorW.PrintWords Go.Proofs.YtmjhflmkgmfjkaaGreatDoorW.PrintMore
open PTreeTwins (S58 S106 S35 z58 z106 k58 k106)
/-- a row without elements, just made -/
theorem R_empty {α : Type} (W : World) (e : Nat) (d : Kd α) : d.R e (W.alloc (.cells #[] e)).drew W.heap.size (fun _ => True) (.slice (some ⟨W.heap.size, 0, none⟩) 0 0) [] :=
  ⟨fun _ _ => trivial, [], ⟨by simp, .inr ⟨W.heap.size, 0, #[], rfl, Nat.le_refl _, heap_alloc_new W _, Nat.le_refl _, Nat.zero_le _, by simp, by simp⟩⟩, Reps.none _ _⟩
/-- bytes that are read stay where a cell that is no byte is written -/
theorem C_bytes_set {w : World} {A : Option Addr} {n : Nat} {d : List Int} (h : kB.C w A n d) {p : Addr} {v0 : Value} (hp : w.cell? p = some v0) (hv : ∀ x, v0 ≠ .int .u8 x) (v : Value) : kB.C (w.setCell p v) A n d := by
  refine ⟨h.1, h.2.1, fun hn => ?_⟩
  obtain ⟨ad, e, hc⟩ := h.2.2 hn
  refine ⟨ad, e, fun j x hj => ?_⟩
  obtain ⟨cs, h1, h2, h3⟩ := hc j x hj
  refine ⟨cs, h1, h2, fun i u hu => ?_⟩
  have h4 := h3 i u hu
  have hcs : cs = [.int .u8 x] := h2
  have hu8 : u = .int .u8 x := by
    rw [hcs] at hu
    cases i with
    | zero => simpa using hu.symm
    | succ i => simp at hu
  have hne : p ≠ ad.add (j * kB.sz + i) := fun e => by rw [← e, hp] at h4; injection h4 with h4; exact hv x (h4.trans hu8)
  rw [World.cell?_setCell_other (h := hne)]
  exact h4
set_option maxRecDepth 100000 in
set_option maxHeartbeats 2000000 in
theorem more_calls (w : World) (q b : Nat) (r : RS) (h : RefAt w q b r) {N : Nat} (hL : Lim r N) (i : Nat) (hi : i < r.L.length) (A : Option Addr) (c : Nat) (d : List Int) (hd : kB.C w A d.length d) (hc : d.length ≤ c) (hdl : d.length ≤ 10000000) :
    Calls Tryz.prog 49 #[.pointer (some ⟨q, 0, none⟩), .int .i64 i, .slice A d.length c] w fun e w' => e = .returned (.int .i64 (rMore r i d).2) ∧ DidR w q b (rMore r i d).1 w' := by
  obtain ⟨cap, hbox, hrow⟩ := h.row
  obtain ⟨c0, c1, c2⟩ := hbox.cells
  have fr1 := hbox.frozen 1
  obtain ⟨v2, v3, e0, e1, e2, e3, hv2, hv3, hfz⟩ := ref_elem hrow i hi
  obtain ⟨A2, k2, rfl, hk2, hC2⟩ := Kd.R_reads hv2
  obtain ⟨A3, k3, rfl, hk3, hC3⟩ := Kd.R_reads hv3
  have hl2 := hL.data i
  have hbl0 := hL.bl0
  have hbl1 := hL.bl1
  have hsm := hL.small
  have hqlt := hbox.lt
  have hbd : 0 ≤ allB ((at_ r.L i).f2.length) ∧ allB ((at_ r.L i).f2.length) ≤ 16720 := allB_bd _ (by omega) (by omega)
  by_cases h5 : (d.length : Int) > 8458240 - (at_ r.L i).f2.length
  · have hres : rMore r i d = (r, 5) := by unfold rMore; rw [if_pos h5]
    rw [hres]
    have hd5 : decide (8458240 - ((at_ r.L i).f2.length : Int) < (d.length : Int)) = true := decide_eq_true h5
    have HH := Lib.hid h
    clear h hrow hv2 hv3 hC2 hC3 hd hres hbox
    generalize (at_ r.L i).f2.length = n2 at *
    generalize (at_ r.L i).f3.length = n3 at *
    generalize r.L.length = nL at *
    go_enter Tryz.func49, Tryz.ntmps49
    go_wp2
    go_ret
    exact ⟨rfl, DidR.none HH.out ((Below.refl _ w).alloc (Nat.le_refl _) _)⟩
  · have hle : ((at_ r.L i).f2.length : Int) + d.length ≤ 8458240 := by omega
    have hd5 : decide (8458240 - ((at_ r.L i).f2.length : Int) < (d.length : Int)) = false := decide_eq_false h5
    have hbd2 : 0 ≤ allB ((at_ r.L i).f2.length + d.length) ∧ allB ((at_ r.L i).f2.length + d.length) ≤ 16720 := allB_bd _ (by omega) hle
    have hall1 := fun W => (rall_calls ((at_ r.L i).f2.length + d.length) W (by omega) hle).mono (R' := fun e w' => e = .returned (.int .i64 (allB ((at_ r.L i).f2.length + d.length))) ∧ w' = W) (fun e w' h => ⟨h.1, h.2.symm⟩)
    have hall2 := fun W => (rall_calls ((at_ r.L i).f2.length) W (by omega) (by omega)).mono (R' := fun e w' => e = .returned (.int .i64 (allB ((at_ r.L i).f2.length))) ∧ w' = W) (fun e w' h => ⟨h.1, h.2.symm⟩)
    by_cases h7 : allB ((at_ r.L i).f2.length + d.length) - allB (at_ r.L i).f2.length > r.bl
    · have hres : rMore r i d = (r, 7) := by unfold rMore; rw [if_neg h5, if_pos h7]
      rw [hres]
      have hd7 : decide (r.bl < allB (((at_ r.L i).f2.length : Int) + d.length) - allB ((at_ r.L i).f2.length : Int)) = true := decide_eq_true h7
      have HH := Lib.hid h
      clear h hrow hv2 hv3 hC2 hC3 hd hres hbox h7 h5
      generalize (at_ r.L i).f2.length = n2 at *
      generalize (at_ r.L i).f3.length = n3 at *
      generalize r.L.length = nL at *
      generalize allB ((n2 : Int) + d.length) = x1 at *
      generalize allB (n2 : Int) = x2 at *
      go_enter Tryz.func49, Tryz.ntmps49
      go_wp2
      go_quiet (first
        | (go_at_call 48; exact Calls.quiet_of_same (hall1 _))
        | (go_at_call 48; exact Calls.quiet_of_same (hall2 _)))
      go_wp2
      go_ret
      exact ⟨rfl, DidR.none HH.out (pw_below_drewN ((Below.refl _ w).alloc (Nat.le_refl _) _) _)⟩
    · have hres : rMore r i d = ({ r with L := setF2 r.L i ((at_ r.L i).f2 ++ d), bl := r.bl - (allB ((at_ r.L i).f2.length + d.length) - allB (at_ r.L i).f2.length) }, 0) := by unfold rMore; rw [if_neg h5, if_neg h7]
      rw [hres]
      have hd7 : decide (r.bl < allB (((at_ r.L i).f2.length : Int) + d.length) - allB ((at_ r.L i).f2.length : Int)) = false := decide_eq_false h7
      have HH := Lib.hid h
      have HD := Lib.hid hd
      have H2 := Lib.hid hv2
      clear h hrow hv2 hv3 hC2 hC3 hd hres hbox h7 h5
      generalize hn2 : (at_ r.L i).f2.length = n2 at *
      have Hn2 := Lib.hid hn2
      generalize (at_ r.L i).f3.length = n3 at *
      generalize hnL : r.L.length = nL at *
      have HnL := Lib.hid hnL
      generalize hx1 : allB ((n2 : Int) + d.length) = x1 at *
      generalize hx2 : allB (n2 : Int) = x2 at *
      have Hx1 := Lib.hid hx1
      have Hx2 := Lib.hid hx2
      clear hn2 hnL hx1 hx2
      go_enter Tryz.func49, Tryz.ntmps49
      go_wp2
      go_quiet (first
        | (go_at_call 48; exact Calls.quiet_of_same (hall1 _))
        | (go_at_call 48; exact Calls.quiet_of_same (hall2 _)))
      go_wp2
      have hloc : (w.alloc (.cells #[.bool (at_ r.L i).f0, .bool (at_ r.L i).f1, .slice A2 n2 k2, .slice A3 n3 k3] 58)).heap[w.heap.size]? = some (.cells #[.bool (at_ r.L i).f0, .bool (at_ r.L i).f1, .slice A2 n2 k2, .slice A3 n3 k3] 58 (0, 0)) := heap_alloc_new w _
      have hb0 : Below w.heap.size w ((w.alloc (.cells #[.bool (at_ r.L i).f0, .bool (at_ r.L i).f1, .slice A2 n2 k2, .slice A3 n3 k3] 58)).drewN nq) := pw_below_drewN ((Below.refl _ w).alloc (Nat.le_refl _) _) nq
      have hs0 : ((w.alloc (.cells #[.bool (at_ r.L i).f0, .bool (at_ r.L i).f1, .slice A2 n2 k2, .slice A3 n3 k3] 58)).drewN nq).heap.size = w.heap.size + 1 := by simp
      change ((w.alloc (.cells #[.bool (at_ r.L i).f0, .bool (at_ r.L i).f1, .slice A2 n2 k2, .slice A3 n3 k3] 58)).drewN nq).heap[w.heap.size]? = _ at hloc
      generalize (w.alloc (.cells #[.bool (at_ r.L i).f0, .bool (at_ r.L i).f1, .slice A2 n2 k2, .slice A3 n3 k3] 58)).drewN nq = W0 at *
      have R1 := (HH.out.below hb0).setBl (r.bl - (x1 - x2))
      obtain ⟨cap1, hb1, _⟩ := (HH.out.below hb0).row
      have hb1c := hb1.cells
      have hD1 : kB.C (W0.setCell ⟨q, 1, none⟩ (.int .i64 (r.bl - (x1 - x2)))) A d.length d := C_bytes_set (Kd.C_below HD.out hb0) hb1c.2.1 (fun x e => by cases e) _
      have hX1 : kB.R 5 (W0.setCell ⟨q, 1, none⟩ (.int .i64 (r.bl - (x1 - x2)))) 0 (fun k => True ∧ k ≠ b) (.slice A2 n2 k2) (at_ r.L i).f2 := Kd.R_set (Kd.R_below H2.out hb0) hb1 (by decide) 1 _
      have hkW : Keeps (fun k => k = q) W0 (W0.setCell ⟨q, 1, none⟩ (.int .i64 (r.bl - (x1 - x2)))) := (Keeps.refl (fun k => k = q) W0).setCell (p := ⟨q, 1, none⟩) (.inl rfl) _
      have hl2 : (W0.setCell ⟨q, 1, none⟩ (.int .i64 (r.bl - (x1 - x2)))).cell? ⟨w.heap.size, 2, none⟩ = some (.slice A2 n2 k2) := hkW.cell (by simp [World.cell?, hloc]) (by simp; omega)
      have hK0 : Keeps (fun k => k = q ∨ k = b) w (W0.setCell ⟨q, 1, none⟩ (.int .i64 (r.bl - (x1 - x2)))) := (Keeps.of_below hb0).then_ hkW (fun k e => .inl (.inl e))
      generalize W0.setCell ⟨q, 1, none⟩ (.int .i64 (r.bl - (x1 - x2))) = W at *
      obtain ⟨cap2, hb2, hr2⟩ := R1.row
      have hz0 := hb2.cells.1
      change W.cell? _ = some (.slice _ r.L.length cap2) at hz0
      rw [HnL.out] at hz0
      have hC2 := (Kd.R_reads' hX1).2.2
      rw [Hn2.out] at hC2
      have hWlt : w.heap.size < W.heap.size := World.block_lt_of_cell? W _ hl2
      have hqW : q < W.heap.size := hb2.lt
      have HX := Lib.hid hX1
      have HC2 := Lib.hid hC2
      have HD1 := Lib.hid hD1
      clear hX1 hC2 hD1 hloc hb0 hs0 hb1 hb1c hkW c0 c1 c2 e0 e1 e2 e3 fr1 hfz hall1 hall2
      have hdl2 : (d.length : Int) ≤ 8458240 := by omega
      have hbq : b ≠ q := fun e => R1.ne (fun e0 => by
        have : r.L = [] := e0
        rw [this] at HnL
        have := HnL.out
        simp at this
        omega) e.symm
      have hbl : b ≠ w.heap.size := fun e => by have := HH.out.row_lt; omega
      obtain ⟨_, _, _, _, s2, _, _, _, sfz⟩ := ref_elem hr2 i (by show i < r.L.length; rw [HnL.out]; exact hi)
      have hbW : b < W.heap.size := World.block_lt_of_cell? W _ s2
      have hoE : kB.R 5 (W.alloc (.cells #[] 5)).drew W.heap.size (fun _ => True) (.slice (some ⟨W.heap.size, 0, none⟩) 0 0) [] := R_empty W 5 kB
      have hbE : Below W.heap.size W (W.alloc (.cells #[] 5)).drew := ((Below.refl _ W).alloc (Nat.le_refl _) _).drew
      go_region_held3 (fun W' => W'.cell? ⟨q, 0, none⟩ = some (.slice (some ⟨b, 0, none⟩) nL cap2) ∧ W'.cell? ⟨w.heap.size, 2, none⟩ = some (.slice A2 n2 k2))
        (first | go_keep | assumption | exact ⟨(World.cell?_setCell_far _ _ _ _ hbq).trans hSz.1, (World.cell?_setCell_far _ _ _ _ hbl).trans hSz.2⟩)
        (first
          | (refine Kd.R_append_rows_step kB (Rr := kB.K W) (w0 := W) W.heap.size ?hg _ _ 33 5 (.int .u8 0) 1 rfl Tryz.underlying33 info_u8 rfl (by decide) (by decide) (.slice (some ⟨W.heap.size, 0, none⟩) 0 0) [] (at_ r.L i).f2 A2 n2 k2 (fun _ => True) (fun _ => False) rfl rfl hoE ?hR (fun _ _ hp => hp) (fun _ hk => hk.elim) (fun _ _ => trivial) hbE (by simp) (by simp; omega) ?_
             (case hg => rfl)
             (case hR => exact ReadsRow.imp_ HC2.out ((Below.refl _ W).alloc (Nat.le_refl _) _).drew (fun _ _ hp => hp))
             intro vy wy hoy hby hgy hay
             have hSy : wy.cell? ⟨q, 0, none⟩ = some (.slice (some ⟨b, 0, none⟩) nL cap2) ∧ wy.cell? ⟨w.heap.size, 2, none⟩ = some (.slice A2 n2 k2) := ⟨(hby.cell (p := ⟨q, 0, none⟩) hqW).trans hz0, (hby.cell (p := ⟨w.heap.size, 2, none⟩) hWlt).trans hl2⟩)
          | (refine Kd.R_append_rows_step kB (Rr := kB.K W) (w0 := W) W.heap.size ?hg _ _ 33 5 (.int .u8 0) 1 rfl Tryz.underlying33 info_u8 rfl (by decide) (by decide) vy ([] ++ (at_ r.L i).f2) d A d.length c (fun _ => True) (fun _ => False) rfl rfl hoy ?hR (fun _ _ hp => hp) (fun _ hk => hk.elim) (fun _ _ => trivial) hby hby.size ?hlz ?_
             (case hg => rfl)
             (case hR => exact ReadsRow.imp_ HD1.out hby (fun _ _ hp => hp))
             (case hlz => have := Hn2.out; simp; omega)
             intro vz wz hoz hbz hgz haz
             obtain ⟨Az, cz, rfl, _, _⟩ := Kd.R_reads hoz
             have hSz : wz.cell? ⟨q, 0, none⟩ = some (.slice (some ⟨b, 0, none⟩) nL cap2) ∧ wz.cell? ⟨w.heap.size, 2, none⟩ = some (.slice A2 n2 k2) := ⟨(hbz.cell (p := ⟨q, 0, none⟩) hqW).trans hz0, (hbz.cell (p := ⟨w.heap.size, 2, none⟩) hWlt).trans hl2⟩
             have zb := (hbz.cell (p := ⟨b, i * 4 + 2, none⟩) hbW).trans s2
             have zf := (World.frozen?_of_block (w := W) (a := ⟨b, i * 4 + 2, none⟩) (hbz.block b hbW)).trans (sfz 2)))
      all_goals
        go_wp2
        go_ret
        have hvz : kB.R 5 wz 0 (fun k => True ∧ k ≠ b) (.slice Az ((at_ r.L i).f2.length + d.length) cz) ((at_ r.L i).f2 ++ d) := by
          have h1 := Kd.R_bound hoz
          simp only [List.nil_append, List.length_append] at h1
          exact Kd.R_lower (Kd.R_mono h1 (fun k hk => ⟨trivial, by have := hk.2.1; omega⟩)) (Nat.zero_le _)
        have R2 := (R1.below hbz).setB i (by show i < r.L.length; rw [HnL.out]; exact hi) _ _ hvz
        refine ⟨rfl, b, R2, ?_, .inl rfl⟩
        exact hK0.then_ (Keeps.then_ (S := fun k => k = q ∨ k = b) (Keeps.of_below hbz) ((Keeps.refl (fun k => k = q ∨ k = b) wz).setCell (p := ⟨b, i * 4 + 2, none⟩) (.inl (.inr rfl)) _) (fun k hk => .inl hk)) (fun k hk => .inl hk)
end Go.Proofs.YtmjhflmkgmfjkaaGreatDoor
