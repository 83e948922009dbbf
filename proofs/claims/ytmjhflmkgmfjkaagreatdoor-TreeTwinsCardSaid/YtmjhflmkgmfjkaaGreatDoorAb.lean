/- A part of the proof: G. -/
import Derived.Test.YtmjhflmkgmfjkaaGreatDoorAa
set_option linter.unusedVariables false
set_option linter.unusedSimpArgs false
namespace Go.Proofs.YtmjhflmkgmfjkaaGreatDoor
open Go.RowKit Go.Proofs.YtmjhflmkgmfjkaaGreatDoorW.PrintWords Go.Proofs.YtmjhflmkgmfjkaaGreatDoorW.PrintMore
open PTreeTwins (S58 S106 S35 z58 z106)
theorem NodeB.set1 {w : World} {b : Nat} {dir : Bool} {dv kv : Value} {s : Int} (h : NodeB w b dir dv kv s) (v : Value) : NodeB (w.setCell ⟨b, 1, none⟩ v) b dir v kv s := by
  unfold NodeB at *
  simp [World.setCell, Array.getElem?_modify, h]
theorem NodeB.other {w : World} {b : Nat} {dir : Bool} {dv kv : Value} {s : Int} (h : NodeB w b dir dv kv s) {p : Addr} (hp : p.block ≠ b) (v : Value) : NodeB (w.setCell p v) b dir dv kv s := (Below.heap_setCell w p v b (fun e => hp e.symm)).trans h
set_option maxHeartbeats 1000000 in
theorem appendAct_calls (w : World) (t r0 na : Nat) (bl ino more : Int) (A : Option Addr) (n c : Nat) (x : List Int) (Ab : Option Addr) (nb cb : Nat) (b : List Int) (hT : TreeB w t r0 bl ino) (hN : NodeB w na false (.slice A n c) (.map none) 0) (hx : kB.C w A n x) (hb : kB.C w Ab nb b) (hn : n ≤ 8458240) (hnb : nb ≤ 8458240)
    (bn bb bt bm : Nat) (h1 : BoxB w bn (.pointer (some ⟨na, 0, none⟩)) 52) (h2 : BoxB w bb (.slice Ab nb cb) 33) (h3 : BoxB w bt (.pointer (some ⟨t, 0, none⟩)) 25) (h4 : BoxB w bm (.int .i64 more) 3) (hm0 : 0 ≤ more) (hm1 : more ≤ bl) (hbl : bl ≤ 100000000) :
    Calls Tryz.prog 72 #[.pointer (some ⟨bn, 0, none⟩), .pointer (some ⟨bb, 0, none⟩), .pointer (some ⟨bt, 0, none⟩), .pointer (some ⟨bm, 0, none⟩)] w fun e w' => e = .returned (.tuple #[]) ∧
      TreeB w' t r0 (bl - more) ino ∧ (∃ v, NodeB w' na false v (.map none) 0 ∧ kB.R 5 w' 0 (fun _ => True) v (x ++ b)) ∧ Keeps (fun j => j = t ∨ j = na) w w' := by
  have b1 := h1.cell
  have b2 := h2.cell
  have b3 := h3.cell
  have b4 := h4.cell
  obtain ⟨c0, c1, c2⟩ := hT.cells
  obtain ⟨n0, n1, n2, n3⟩ := hN.cells
  have fn1 := hN.frozen 1
  have e1 : bn < w.heap.size := World.block_lt_of_cell? w _ b1
  have e2 : bb < w.heap.size := World.block_lt_of_cell? w _ b2
  have e3 : bt < w.heap.size := World.block_lt_of_cell? w _ b3
  have e4 : bm < w.heap.size := World.block_lt_of_cell? w _ b4
  have e5 : t < w.heap.size := World.block_lt_of_cell? w _ c0
  have e6 : na < w.heap.size := hN.lt
  have d1 : bn ≠ na := hN.ne_ty h1 (by decide)
  have d2 : bb ≠ na := hN.ne_ty h2 (by decide)
  have d3 : bt ≠ na := hN.ne_ty h3 (by decide)
  have d4 : bm ≠ na := hN.ne_ty h4 (by decide)
  have d5 : t ≠ na := hT.ne_node hN
  have hW : Below w.heap.size w (w.alloc (.cells #[.slice A n c, .slice Ab nb cb] 33)).drew := ((Below.refl _ w).alloc (Nat.le_refl _) _).drew
  have hcc := concat_calls w.heap.size A Ab n nb c cb x b (w.alloc (.cells #[.slice A n c, .slice Ab nb cb] 33)).drew (heap_alloc_new w _) (Kd.C_below hx hW) (Kd.C_below hb hW) (by omega) (by omega)
  have hq : ∀ w1 : World, Below (w.alloc (.cells #[.slice A n c, .slice Ab nb cb] 33)).drew.heap.size (w.alloc (.cells #[.slice A n c, .slice Ab nb cb] 33)).drew w1 → w1.cell? ⟨bn, 0, none⟩ = some (.pointer (some ⟨na, 0, none⟩)) ∧ w1.cell? ⟨na, 1, none⟩ = some (.slice A n c) ∧ w1.frozen? ⟨na, 1, none⟩ = false ∧ Hid (Below w.heap.size w w1) := fun w1 h => by
    have hh : Below w.heap.size w w1 := hW.trans (h.mono (by simp))
    exact ⟨(hh.cell (p := ⟨bn, 0, none⟩) e1).trans b1, (hh.cell (p := ⟨na, 1, none⟩) e6).trans n1, (hh.frozen (p := ⟨na, 1, none⟩) e6).trans fn1, hh⟩
  have Hx := Lib.hid hx
  have Hb := Lib.hid hb
  clear hx hb
  go_enter Tryz.func72, Tryz.ntmps72
  go_upto_region 0 with fail
  go_cut [] (fun wx => ∃ w1 v, Below w.heap.size w w1 ∧ kB.R 5 w1 0 (fun _ => True) v (x ++ b) ∧ wx.heap = (w1.setCell ⟨na, 1, none⟩ v).heap ∧ wx.os = w.os ∧ wx.tape = w.tape ∧ wx.output = w.output)
  case first =>
    go_region_with (first
      | (go_at_call 73; refine hcc.mono ?_; rintro e w1 ⟨v1, rfl, ho1, hb1⟩; obtain ⟨q1, q2, q3, q4⟩ := hq w1 hb1; obtain ⟨A1, c1', rfl, hc1, _⟩ := Kd.R_reads ho1))
    all_goals
      go_wp2_with fail
      go_meet
      exact ⟨w1, _, q4, kB_base ho1, by rw [List.length_append], q4.os, q4.tape, q4.output⟩
  case rest =>
    obtain ⟨w1, v, hb1, ho1, hheap, ho, ht, hu⟩ := hcut
    have hcellx : ∀ p : Addr, wc.cell? p = (w1.setCell ⟨na, 1, none⟩ v).cell? p := fun p => by simp only [World.cell?, hheap]
    have hfar : ∀ (p : Addr) (u : Value), p.block ≠ na → w.cell? p = some u → wc.cell? p = some u := fun p u hne hp => by
      rw [hcellx, World.cell?_of_block (w := w1) (Below.heap_setCell w1 ⟨na, 1, none⟩ v p.block hne), hb1.cell (World.block_lt_of_cell? w p hp)]
      exact hp
    have T1 : TreeB wc t r0 bl ino := by
      unfold TreeB
      rw [hheap, Below.heap_setCell w1 ⟨na, 1, none⟩ v t d5]
      exact hT.below hb1
    have N1 : NodeB wc na false v (.map none) 0 := by
      unfold NodeB
      rw [hheap]
      exact (hN.below hb1).set1 v
    have O1 : kB.R 5 wc 0 (fun _ => True) v (x ++ b) := by
      refine bytes_keeps (w := w1) (S := fun k => k = na) ho1 ⟨ho.trans hb1.os.symm, ht.trans hb1.tape.symm, hu.trans hb1.output.symm, by rw [hheap]; simp [World.setCell], fun k _ hk => by rw [hheap]; exact Below.heap_setCell w1 ⟨na, 1, none⟩ v k hk⟩ (fun k hk _ => by subst hk; exact .inl ⟨_, _, hN.below hb1, by decide⟩)
    have K1 : Keeps (fun j => j = t ∨ j = na) w wc := ⟨ho, ht, hu, by rw [hheap]; simpa [World.setCell] using hb1.size, fun k hlt hk => by rw [hheap, Below.heap_setCell w1 ⟨na, 1, none⟩ v k (fun e => hk (.inr e))]; exact hb1.block k hlt⟩
    have b3' := hfar _ _ d3 b3
    have b4' := hfar _ _ d4 b4
    obtain ⟨c0', c1', c2'⟩ := T1.cells
    have f1' := T1.frozen 1
    clear hcellx hfar hheap ho ht hu hb1 ho1 hq hcc hW
    go_wp2
    go_region
    all_goals
      go_wp2
      go_end0
      exact ⟨rfl, (TreeB.set1 (w := wc) T1 _), ⟨v, NodeB.other (w := wc) N1 (p := ⟨t, 1, none⟩) d5 _, bytes_keeps O1 (((Keeps.refl (fun k => k = t) wc).setCell (p := ⟨t, 1, none⟩) (.inl rfl) _).drew) (fun k hk _ => by subst hk; exact .inl ⟨_, _, T1, by decide⟩)⟩, (K1.setCell (p := ⟨t, 1, none⟩) (.inl (.inl rfl)) _).drew⟩
end Go.Proofs.YtmjhflmkgmfjkaaGreatDoor
