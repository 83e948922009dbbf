/- A part of the proof: Y12. -/
import Derived.Test.YtmjhflmkgmfjkaaGreatDoorYd
set_option linter.unusedVariables false
set_option linter.unusedSimpArgs false
namespace Go.Proofs.YtmjhflmkgmfjkaaGreatDoor
open Go.RowKit Go.Proofs.YtmjhflmkgmfjkaaGreatDoorW.PrintWords Go.Proofs.YtmjhflmkgmfjkaaGreatDoorW.PrintMore
open PTreeTwins (S58 S106 S35 z58 z106 k58 k106)
set_option maxRecDepth 100000 in
set_option maxHeartbeats 4000000 in
theorem data_cut (w : World) (q b : Nat) (r : RS) (h : RefAt w q b r) {way : Nat → List ByteArray} (hG : Good r.L way) {N : Nat} (hL : Lim r N) (p p2 : ByteArray) (vd : Value) (hvd : ∃ A n c, vd = .slice A n c) (n : Int)
    (A : Option Addr) (c : Nat) (l : List ByteArray) (hl : Kd.C Kd.string w A l.length l) (hc : l.length ≤ c) :
    Calls Tryz.prog 23 #[.pointer (some ⟨q, 0, none⟩), .agg #[.int .i64 4, .string p, .string p2, vd, .int .i64 n], .slice A l.length c] w fun e w' => e = .returned (.int .i64 (rCut r l n).2) ∧ DidR w q b (rCut r l n).1 w' := by
  obtain ⟨Ad, nd, cd, rfl⟩ := hvd
  have hwalk := fun W (hW : Below w.heap.size w W) => walk_ref (h.below hW) hG hL A c l (Kd.C_below hl hW) hc
  have hlt := walk_lt hG l
  have hW0 := (Below.refl w.heap.size w).alloc (Nat.le_refl _) (.cells #[.int .i64 4, .string p, .string p2, .slice Ad nd cd, .int .i64 n] 37)
  have hW0' : ∀ m, Below w.heap.size w ((w.alloc (.cells #[.int .i64 4, .string p, .string p2, .slice Ad nd cd, .int .i64 n] 37)).drewN m) := fun m => pw_below_drewN hW0 m
  obtain ⟨a, e, hae⟩ : ∃ a e, walkL r.L l 0 = (a, e) := ⟨_, _, rfl⟩
  simp only [hae] at hwalk hlt
  have HH := Lib.hid h
  by_cases he : e = 0
  · subst he
    obtain ⟨cap, hbox, hrow⟩ := h.row
    obtain ⟨c0, c1, c2⟩ := hbox.cells
    have fr1 := hbox.frozen 1
    obtain ⟨v2, v3, e0, e1, e2, e3, hv2, hv3, hfz⟩ := ref_elem hrow a hlt
    obtain ⟨A2, k2, rfl, hk2, hC2⟩ := Kd.R_reads hv2
    obtain ⟨A3, k3, rfl, hk3, hC3⟩ := Kd.R_reads hv3
    have hqlt := hbox.lt
    have hblt := h.row_lt
    have hal : (a : Int) < (r.L.length : Int) := by omega
    have hl2 := hL.data a
    have hbl0 := hL.bl0
    have hbl1 := hL.bl1
    have hsm := hL.small
    cases hdir : (at_ r.L a).f1 with
    | true =>
      have hres : rCut r l n = (r, 10) := by unfold rCut; rw [hae]; simp only; rw [if_neg (by decide), if_pos hdir]
      rw [hres]
      rw [hdir] at e1
      clear hres hae h hl hrow hv2 hv3 hC2 hC3 hbox
      generalize (at_ r.L a).f2.length = n2 at *
      generalize (at_ r.L a).f3.length = n3 at *
      generalize r.L.length = nL at *
      go_enter Tryz.func23, Tryz.ntmps23
      go_wp2_with (first | (go_at_call 43; refine (hwalk _ (by exact hW0)).mono ?_; rintro e w1 ⟨rfl, n1, rfl⟩))
      go_ret
      exact ⟨rfl, DidR.none HH.out ((hW0' _).alloc (hW0' _).size _)⟩
    | false =>
      rw [hdir] at e1
      by_cases hbad : n < 0 ∨ n > (at_ r.L a).f2.length
      · have hres : rCut r l n = (r, 1) := by unfold rCut; rw [hae]; simp only; rw [if_neg (by decide), if_neg (by rw [hdir]; decide), if_pos hbad]
        rw [hres]
        clear hres hae h hl hrow hv2 hv3 hC2 hC3 hbox
        generalize (at_ r.L a).f2.length = n2 at *
        generalize (at_ r.L a).f3.length = n3 at *
        generalize r.L.length = nL at *
        by_cases hn0 : n < 0
        · have d0 : decide (n < 0) = true := decide_eq_true hn0
          clear hbad
          go_enter Tryz.func23, Tryz.ntmps23
          go_wp2_with (first | (go_at_call 43; refine (hwalk _ (by exact hW0)).mono ?_; rintro e w1 ⟨rfl, n1, rfl⟩))
          go_ret
          exact ⟨rfl, DidR.none HH.out ((hW0' _).alloc (hW0' _).size _)⟩
        · have d0 : decide (n < 0) = false := decide_eq_false hn0
          have hn1 : (n2 : Int) < n := by omega
          have d1 : decide ((n2 : Int) < n) = true := decide_eq_true hn1
          clear hbad
          go_enter Tryz.func23, Tryz.ntmps23
          go_wp2_with (first | (go_at_call 43; refine (hwalk _ (by exact hW0)).mono ?_; rintro e w1 ⟨rfl, n1, rfl⟩))
          go_ret
          exact ⟨rfl, DidR.none HH.out ((hW0' _).alloc (hW0' _).size _)⟩
      · obtain ⟨m, rfl⟩ : ∃ m : Nat, n = m := ⟨n.toNat, by omega⟩
        have hm2 : m ≤ (at_ r.L a).f2.length := by omega
        have hres : rCut r l (m : Int) = ({ r with L := setF2 r.L a ((at_ r.L a).f2.take m), bl := r.bl + allB (at_ r.L a).f2.length - allB m }, 0) := by
          unfold rCut; rw [hae]; simp only; rw [if_neg (by decide), if_neg (by rw [hdir]; decide), if_neg hbad, Int.toNat_natCast]
        rw [hres]
        have d0 : decide ((m : Int) < 0) = false := by simp
        have d1 : decide (((at_ r.L a).f2.length : Int) < (m : Int)) = false := by simp; omega
        have hbd : 0 ≤ allB ((at_ r.L a).f2.length) ∧ allB ((at_ r.L a).f2.length) ≤ 16720 := allB_bd _ (by omega) (by omega)
        have hbd2 : 0 ≤ allB (m : Int) ∧ allB (m : Int) ≤ 16720 := allB_bd _ (by omega) (by omega)
        have hall1 := fun W => rall_calls ((at_ r.L a).f2.length) W (by omega) (by omega)
        have hall2 := fun W => rall_calls (m : Int) W (by omega) (by omega)
        have H2 := Lib.hid hv2
        clear hres hae h hl hrow hv2 hv3 hC2 hC3 hbox hbad
        generalize hn2 : (at_ r.L a).f2.length = n2 at *
        have Hn2 := Lib.hid hn2
        generalize (at_ r.L a).f3.length = n3 at *
        generalize hnL : r.L.length = nL at *
        have HnL := Lib.hid hnL
        generalize allB (n2 : Int) = x1 at *
        generalize allB (m : Int) = x2 at *
        clear hn2 hnL
        go_enter Tryz.func23, Tryz.ntmps23
        go_wp2_with (first | (go_at_call 43; refine (hwalk _ (by exact hW0)).mono ?_; rintro e w1 ⟨rfl, n1, rfl⟩))
        go_cut [] (fun wx => ∃ nz, wx = ((((w.alloc (.cells #[.int .i64 4, .string p, .string p2, .slice Ad nd cd, .int .i64 m] 37)).drewN n1).setCell ⟨q, 1, none⟩ (.int .i64 (r.bl + x1 - x2))).alloc (.cells #[.bool (at_ r.L a).f0, .bool false, .slice A2 n2 k2, .slice A3 n3 k3] 58)).drewN nz)
        case first =>
          go_region_with (first
            | (go_at_call 48; with_reducible refine (hall1 _).mono ?_; rintro e w' ⟨rfl, rfl⟩)
            | (go_at_call 48; with_reducible refine (hall2 _).mono ?_; rintro e w' ⟨rfl, rfl⟩))
          all_goals
            go_wp2_with fail
            go_meet
            rw [IntWalk.i64_in (r.bl + x1) (by omega), IntWalk.i64_in (r.bl + x1 - x2) (by omega)]
            exact ⟨1, rfl⟩
        case rest =>
          obtain ⟨nz, hcut⟩ := hcut
          have hb1 := HH.out.below (hW0' n1)
          have hS1 : ((w.alloc (.cells #[.int .i64 4, .string p, .string p2, .slice Ad nd cd, .int .i64 m] 37)).drewN n1).heap[w.heap.size]? = some (.cells #[.int .i64 4, .string p, .string p2, .slice Ad nd cd, .int .i64 m] 37 (0, 0)) := heap_alloc_new w _
          have hs1 : ((w.alloc (.cells #[.int .i64 4, .string p, .string p2, .slice Ad nd cd, .int .i64 m] 37)).drewN n1).heap.size = w.heap.size + 1 := by simp
          have hX1 := Kd.R_below H2.out (hW0' n1)
          have hK1 : Keeps (fun k => k = q ∨ k = b) w ((w.alloc (.cells #[.int .i64 4, .string p, .string p2, .slice Ad nd cd, .int .i64 m] 37)).drewN n1) := Keeps.of_below (hW0' n1)
          generalize ((w.alloc (.cells #[.int .i64 4, .string p, .string p2, .slice Ad nd cd, .int .i64 m] 37)).drewN n1) = W1 at *
          obtain ⟨cp1, hq1, _⟩ := hb1.row
          have R2 := hb1.setBl (r.bl + x1 - x2)
          have hX2 := Kd.R_set hX1 hq1 (by decide) 1 (.int .i64 (r.bl + x1 - x2))
          have hk2 : Keeps (fun k => k = q) W1 (W1.setCell ⟨q, 1, none⟩ (.int .i64 (r.bl + x1 - x2))) := (Keeps.refl (fun k => k = q) W1).setCell (p := ⟨q, 1, none⟩) (.inl rfl) _
          have hS2 := hk2.blk hS1 (by omega)
          have hK2 := hK1.then_ hk2 (fun k e => .inl (.inl e))
          have hs2 : (W1.setCell ⟨q, 1, none⟩ (.int .i64 (r.bl + x1 - x2))).heap.size = w.heap.size + 1 := by simp [hs1]
          generalize W1.setCell ⟨q, 1, none⟩ (.int .i64 (r.bl + x1 - x2)) = W2 at *
          have hb3 : Below W2.heap.size W2 ((W2.alloc (.cells #[.bool (at_ r.L a).f0, .bool false, .slice A2 n2 k2, .slice A3 n3 k3] 58)).drewN nz) := pw_below_drewN ((Below.refl _ W2).alloc (Nat.le_refl _) _) nz
          have hS3 : ((W2.alloc (.cells #[.bool (at_ r.L a).f0, .bool false, .slice A2 n2 k2, .slice A3 n3 k3] 58)).drewN nz).heap[w.heap.size + 1]? = some (.cells #[.bool (at_ r.L a).f0, .bool false, .slice A2 n2 k2, .slice A3 n3 k3] 58 (0, 0)) := by
            have := heap_alloc_new W2 (.cells #[.bool (at_ r.L a).f0, .bool false, .slice A2 n2 k2, .slice A3 n3 k3] 58)
            rw [hs2] at this
            exact this
          have hS4 := (hb3.block w.heap.size (by omega)).trans hS2
          have R3 := R2.below hb3
          have hX3 := Kd.R_below hX2 hb3
          have hK3 := hK2.trans (Keeps.of_below hb3)
          rw [← hcut] at hS3 hS4 R3 hX3 hK3
          clear hcut hb3 hS2 R2 hX2 hK2 hk2 hS1 hX1 hK1 hb1 hq1 hs1 hs2 c0 c1 c2 e0 e1 e2 e3 hfz fr1 hall1 hall2 hwalk
          obtain ⟨cap2, hb2, hr2⟩ := R3.row
          have hz0 := hb2.cells.1
          change wc.cell? _ = some (.slice _ r.L.length cap2) at hz0
          rw [HnL.out] at hz0
          have hl4 : wc.cell? ⟨w.heap.size, 4, none⟩ = some (.int .i64 m) := by simp [World.cell?, hS4]
          have ht2 : wc.cell? ⟨w.heap.size + 1, 2, none⟩ = some (.slice A2 n2 k2) := by simp [World.cell?, hS3]
          have hqW : q < wc.heap.size := hb2.lt
          have hWl : w.heap.size < wc.heap.size := World.block_lt_of_cell? wc _ hl4
          have hWt : w.heap.size + 1 < wc.heap.size := World.block_lt_of_cell? wc _ ht2
          obtain ⟨_, _, _, _, s2, _, _, _, sfz⟩ := ref_elem hr2 a (by show a < r.L.length; rw [HnL.out]; exact hlt)
          have hbW : b < wc.heap.size := World.block_lt_of_cell? wc _ s2
          have hbq : b ≠ q := fun e => R3.ne (fun e0 => by
            have : r.L = [] := e0
            rw [this] at HnL
            have := HnL.out
            simp at this
            omega) e.symm
          have hbl : b ≠ w.heap.size := by omega
          have hbt : b ≠ w.heap.size + 1 := by omega
          have hC3' := (Kd.R_reads' hX3).2.2
          have hC4 := Kd.C_take hC3' (show m ≤ (at_ r.L a).f2.length by rw [Hn2.out]; exact hm2)
          have HC4 := Lib.hid hC4
          have HX := Lib.hid hX3
          have hoE : kB.R 5 (wc.alloc (.cells #[] 5)).drew wc.heap.size (fun _ => True) (.slice (some ⟨wc.heap.size, 0, none⟩) 0 0) [] := R_empty wc 5 kB
          have hbE : Below wc.heap.size wc (wc.alloc (.cells #[] 5)).drew := ((Below.refl _ wc).alloc (Nat.le_refl _) _).drew
          have hlt4 : ((at_ r.L a).f2.take m).length = m := by rw [List.length_take, Hn2.out]; omega
          rw [hlt4] at HC4
          have Hlt4 := Lib.hid hlt4
          have hmn : (m : Int) ≤ (n2 : Int) := by omega
          have hnk : (n2 : Int) ≤ (k2 : Int) := by omega
          have hmk : (m : Int) ≤ (k2 : Int) := by omega
          have hR3 := Lib.hid hr2
          clear hX3 hC3' hC4 hlt4 hS3 hS4 hr2
          go_wp2
          go_region_held3 (fun W' => W'.cell? ⟨q, 0, none⟩ = some (.slice (some ⟨b, 0, none⟩) nL cap2) ∧ W'.cell? ⟨w.heap.size, 4, none⟩ = some (.int .i64 m) ∧ W'.cell? ⟨w.heap.size + 1, 2, none⟩ = some (.slice A2 n2 k2))
            (first | go_keep | assumption | exact ⟨(World.cell?_setCell_far _ _ _ _ hbq).trans hSz.1, (World.cell?_setCell_far _ _ _ _ hbl).trans hSz.2.1, (World.cell?_setCell_far _ _ _ _ hbt).trans hSz.2.2⟩)
            (first
              | (refine Kd.R_append_rows_step kB (Rr := kB.K wc) (w0 := wc) wc.heap.size ?hg _ _ 33 5 (.int .u8 0) 1 rfl Tryz.underlying33 info_u8 rfl (by decide) (by decide) (.slice (some ⟨wc.heap.size, 0, none⟩) 0 0) [] ((at_ r.L a).f2.take m) A2 m _ (fun _ => True) (fun _ => False) rfl rfl hoE ?hR (fun _ _ hp => hp) (fun _ hk => hk.elim) (fun _ _ => trivial) hbE (by simp) (by simp; omega) ?_
                 (case hg => rfl)
                 (case hR => exact ReadsRow.imp_ HC4.out hbE (fun _ _ hp => hp))
                 intro vz wz hoz hbz hgz haz
                 obtain ⟨Az, cz, rfl, _, _⟩ := Kd.R_reads hoz
                 have hSz : wz.cell? ⟨q, 0, none⟩ = some (.slice (some ⟨b, 0, none⟩) nL cap2) ∧ wz.cell? ⟨w.heap.size, 4, none⟩ = some (.int .i64 m) ∧ wz.cell? ⟨w.heap.size + 1, 2, none⟩ = some (.slice A2 n2 k2) := ⟨(hbz.cell (p := ⟨q, 0, none⟩) hqW).trans hz0, (hbz.cell (p := ⟨w.heap.size, 4, none⟩) hWl).trans hl4, (hbz.cell (p := ⟨w.heap.size + 1, 2, none⟩) hWt).trans ht2⟩
                 have zb := (hbz.cell (p := ⟨b, a * 4 + 2, none⟩) hbW).trans s2
                 have zf := (World.frozen?_of_block (w := wc) (a := ⟨b, a * 4 + 2, none⟩) (hbz.block b hbW)).trans (sfz 2)))
          all_goals
            go_wp2
            go_ret
            have hvz : kB.R 5 wz 0 (fun k => True ∧ k ≠ b) (.slice Az ([] ++ (at_ r.L a).f2.take m).length cz) ((at_ r.L a).f2.take m) := by
              have h1 := Kd.R_bound hoz
              rw [List.nil_append] at h1
              exact Kd.R_lower (Kd.R_mono h1 (fun k hk => ⟨trivial, by have := hk.2.1; omega⟩)) (Nat.zero_le _)
            have R4 := (R3.below hbz).setB a (by show a < r.L.length; rw [HnL.out]; exact hlt) _ _ hvz
            refine ⟨rfl, b, ?_, ?_, .inl rfl⟩
            · have hln : ([] ++ (at_ r.L a).f2.take m).length = min m (at_ r.L a).f2.length := by simp
              rw [hln] at R4
              exact R4
            · exact hK3.then_ (Keeps.then_ (S := fun k => k = q ∨ k = b) (Keeps.of_below hbz) ((Keeps.refl (fun k => k = q ∨ k = b) wz).setCell (p := ⟨b, a * 4 + 2, none⟩) (.inl (.inr rfl)) _) (fun k hk => .inl hk)) (fun k hk => .inl hk)
  · have hres : rCut r l n = (r, e) := by unfold rCut; rw [hae]; simp only; rw [if_pos he]
    rw [hres]
    have hde : (e != 0) = true := by simpa using he
    clear hres hae h hl
    go_enter Tryz.func23, Tryz.ntmps23
    go_wp2_with (first | (go_at_call 43; refine (hwalk _ (by exact hW0)).mono ?_; rintro e w1 ⟨rfl, n1, rfl⟩))
    go_ret
    exact ⟨rfl, DidR.none HH.out (hW0' _)⟩
end Go.Proofs.YtmjhflmkgmfjkaaGreatDoor
