/- A part of the proof: I. -/
import Derived.Test.YtmjhflmkgmfjkaaGreatDoorAb
set_option linter.unusedVariables false
set_option linter.unusedSimpArgs false
namespace Go.Proofs.YtmjhflmkgmfjkaaGreatDoor
open Go.RowKit Go.Proofs.YtmjhflmkgmfjkaaGreatDoorW.PrintWords Go.Proofs.YtmjhflmkgmfjkaaGreatDoorW.PrintMore
open PTreeTwins (S58 S106 S35 z58 z106)
set_option maxHeartbeats 4000000 in
theorem cutAct_calls (w : World) (t r0 na : Nat) (bl ino : Int) (i : Nat) (A : Option Addr) (c : Nat) (x : List Int) (hT : TreeB w t r0 bl ino) (hN : NodeB w na false (.slice A x.length c) (.map none) 0) (hx : kB.R 5 w 0 (fun _ => True) (.slice A x.length c) x) (hn : x.length ≤ 8458240) (hi : i ≤ x.length)
    (bt bn bi : Nat) (h1 : BoxB w bt (.pointer (some ⟨t, 0, none⟩)) 25) (h2 : BoxB w bn (.pointer (some ⟨na, 0, none⟩)) 52) (h3 : BoxB w bi (.int .i64 i) 3) (hbl0 : 0 ≤ bl) (hbl : bl ≤ 100000000) :
    Calls Tryz.prog 74 #[.pointer (some ⟨bt, 0, none⟩), .pointer (some ⟨bn, 0, none⟩), .pointer (some ⟨bi, 0, none⟩)] w fun e w' => e = .returned (.tuple #[]) ∧
      TreeB w' t r0 (bl + (allB x.length - allB i)) ino ∧ (∃ v, NodeB w' na false v (.map none) 0 ∧ kB.R 5 w' 0 (fun _ => True) v (x.take i)) ∧ Keeps (fun j => j = t ∨ j = na) w w' := by
  have b1 := h1.cell
  have b2 := h2.cell
  have b3 := h3.cell
  obtain ⟨c0, c1, c2⟩ := hT.cells
  obtain ⟨n0, n1, n2, n3⟩ := hN.cells
  have fn1 := hN.frozen 1
  have ft1 := hT.frozen 1
  have e1 : bt < w.heap.size := World.block_lt_of_cell? w _ b1
  have e2 : bn < w.heap.size := World.block_lt_of_cell? w _ b2
  have e3 : bi < w.heap.size := World.block_lt_of_cell? w _ b3
  have e5 : t < w.heap.size := World.block_lt_of_cell? w _ c0
  have e6 : na < w.heap.size := hN.lt
  have d1 : bt ≠ na := hN.ne_ty h1 (by decide)
  have d2 : bn ≠ na := hN.ne_ty h2 (by decide)
  have d3 : bi ≠ na := hN.ne_ty h3 (by decide)
  have d5 : t ≠ na := hT.ne_node hN
  have g1 : bt ≠ t := fun e => by subst e; unfold TreeB at hT; unfold BoxB at h1; rw [hT] at h1; cases h1
  have g2 : bn ≠ t := fun e => by subst e; unfold TreeB at hT; unfold BoxB at h2; rw [hT] at h2; cases h2
  have g3 : bi ≠ t := fun e => by subst e; unfold TreeB at hT; unfold BoxB at h3; rw [hT] at h3; cases h3
  have a1 := allB_bd (x.length : Int) (by omega) (by omega)
  have a2 := allB_bd (i : Int) (by omega) (by omega)
  have hle : (i : Int) ≤ (x.length : Int) := by omega
  have Hx := Lib.hid hx
  clear hx
  go_enter Tryz.func74, Tryz.ntmps74
  go_upto_region 0 with fail
  go_cut [] (fun wx => ∃ n, wx = (w.setCell ⟨t, 1, none⟩ (.int .i64 (bl + (allB x.length - allB i)))).drewN n)
  case first =>
    clear Hx fn1 e1 e2 e3 e5 e6 d1 d2 d3 d5 g1 g2 g3 h1 h2 h3 hT n0 n1 n2 n3 c0 c2 hle
    go_region_with (first
      | (go_at_call 71; refine (nblocks_file na A x.length c (.map none) 0 _ (by exact hN) hn).mono ?_; rintro e w' ⟨rfl, rfl⟩)
      | (go_at_call 70; refine (all_calls _ _ (by omega) (by omega)).mono ?_; rintro e w' ⟨rfl, rfl⟩))
    all_goals
      go_wp2_with fail
      go_meet
      rw [IntWalk.i64_in (allB (x.length : Int) - allB (i : Int)) (by omega), IntWalk.i64_in (bl + (allB (x.length : Int) - allB (i : Int))) (by omega)]
      exact ⟨1, rfl⟩
  case rest =>
    obtain ⟨n, hcut⟩ := hcut
    have hk : Keeps (fun j => j = t) w wc := by rw [hcut]; exact ((Keeps.refl (fun j => j = t) w).setCell (p := ⟨t, 1, none⟩) (.inl rfl) _).drewN _
    have T1 : TreeB wc t r0 (bl + (allB x.length - allB i)) ino := by rw [hcut]; exact TreeB.set1 (w := w) hT _
    have N1 : NodeB wc na false (.slice A x.length c) (.map none) 0 := hN.keeps hk (fun e => d5 e.symm)
    have X1 := bytes_keeps (S := fun j => j = t) Hx.out hk (fun k e _ => by subst e; exact .inl ⟨_, _, hT, by decide⟩)
    obtain ⟨_, hc, C1⟩ := Kd.R_reads' X1
    have C2 := Kd.C_take C1 hi
    have hl : (x.take i).length = i := by rw [List.length_take]; omega
    rw [hl] at C2
    have y1 := hk.cell (p := ⟨bt, 0, none⟩) b1 g1
    have y2 := hk.cell (p := ⟨bn, 0, none⟩) b2 g2
    have y3 := hk.cell (p := ⟨bi, 0, none⟩) b3 g3
    obtain ⟨m0, m1, m2, m3⟩ := N1.cells
    have fm1 := N1.frozen 1
    have hsz : w.heap.size ≤ wc.heap.size := hk.size
    have hcc := fun W : World => fun hb : Below wc.heap.size wc W => clone_calls A i c (x.take i) W (Kd.C_below C2 hb) (by omega) (by omega)
    have hq : ∀ W w1 : World, Below wc.heap.size wc W → Below W.heap.size W w1 → w1.cell? ⟨bn, 0, none⟩ = some (.pointer (some ⟨na, 0, none⟩)) ∧ w1.cell? ⟨na, 1, none⟩ = some (.slice A x.length c) ∧ w1.frozen? ⟨na, 1, none⟩ = false ∧ Hid (Below wc.heap.size wc w1) := fun W w1 h1 h2 => by
      have hh : Below wc.heap.size wc w1 := h1.trans (h2.mono h1.size)
      exact ⟨(hh.cell (p := ⟨bn, 0, none⟩) (by show bn < _; omega)).trans y2, (hh.cell (p := ⟨na, 1, none⟩) (by show na < _; omega)).trans m1, (hh.frozen (p := ⟨na, 1, none⟩) (by show na < _; omega)).trans fm1, hh⟩
    have HT := Lib.hid T1
    have HX := Lib.hid X1
    have hN' := Lib.hid N1
    have Hk := Lib.hid hk
    clear hcut hk T1 X1 N1 C1 C2 Hx b1 b2 b3 c0 c1 c2 n0 n1 n2 n3 fn1 ft1 m0 m2 m3 h1 h2 h3 hT hN a1 a2
    go_wp2
    go_region_with (first
      | (go_at_call 32; refine (hcc _ (by first | exact Below.refl _ _ | exact (Below.refl _ _).drew)).mono ?_; rintro e w1 ⟨v1, rfl, ho1, hb1⟩; obtain ⟨q2, q5, q3, q4⟩ := hq _ w1 (by first | exact Below.refl _ _ | exact (Below.refl _ _).drew) hb1; obtain ⟨A1, c1', rfl, hc1, _⟩ := Kd.R_reads ho1))
    all_goals
      go_wp2
      go_end0
      have ho2 := kB_base ho1
      rw [hl] at ho2
      have K1 : Keeps (fun j => j = t ∨ j = na) w w1 := (Hk.out.mono (fun _ h => .inl h)).then_ (S2 := fun _ => False) (Keeps.of_below q4.out) (fun _ h => h.elim)
      exact ⟨rfl, (HT.out.below q4.out).keeps (((Keeps.refl (fun j => j = na) w1).setCell (p := ⟨na, 1, none⟩) (.inl rfl) _)) (fun e => d5 e), ⟨_, NodeB.set1 (w := w1) (hN'.out.below q4.out) _, bytes_keeps ho2 (((Keeps.refl (fun j => j = na) w1).setCell (p := ⟨na, 1, none⟩) (.inl rfl) _)) (fun k hk _ => by subst hk; exact .inl ⟨_, _, hN'.out.below q4.out, by decide⟩)⟩, (K1.setCell (p := ⟨na, 1, none⟩) (.inl (.inr rfl)) _)⟩
end Go.Proofs.YtmjhflmkgmfjkaaGreatDoor
