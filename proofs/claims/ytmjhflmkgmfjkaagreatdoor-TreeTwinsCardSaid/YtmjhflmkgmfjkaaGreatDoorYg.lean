/- A part of the proof: Y16, Y17. -/
import Derived.Test.YtmjhflmkgmfjkaaGreatDoorYf
set_option linter.unusedVariables false
set_option linter.unusedSimpArgs false
namespace Go.Proofs.YtmjhflmkgmfjkaaGreatDoor
open Go.RowKit Go.Proofs.YtmjhflmkgmfjkaaGreatDoorW.PrintWords Go.Proofs.YtmjhflmkgmfjkaaGreatDoorW.PrintMore
open PTreeTwins (S58 S106 S35 z58 z106 k58 k106)
theorem walkL_snoc (L : List S58) (n : ByteArray) : ∀ (d : List ByteArray) (i : Nat), walkL L (d ++ [n]) i =
    if (walkL L d i).2 ≠ 0 then (0, (walkL L d i).2) else if (at_ L (walkL L d i).1).f1 = true then (match whose (at_ L (walkL L d i).1).f3 n with | none => (0, 8) | some j => (j, 0)) else (0, 11)
  | [], i => by
    show walkL L [n] i = _
    have h0 : walkL L [] i = (i, 0) := rfl
    rw [h0]
    by_cases h : (at_ L i).f1 = true
    · simp only [walkL, h, if_true]
      cases whose (at_ L i).f3 n <;> simp
    · simp [walkL, h]
  | x :: d, i => by
    show walkL L (x :: (d ++ [n])) i = _
    conv => lhs; unfold walkL
    have hr : walkL L (x :: d) i = if (at_ L i).f1 = true then (match whose (at_ L i).f3 x with | none => (0, 8) | some j => walkL L d j) else (0, 11) := by
      rfl
    rw [hr]
    by_cases h : (at_ L i).f1 = true
    · rw [if_pos h, if_pos h]
      cases whose (at_ L i).f3 x with
      | none => simp
      | some j => exact walkL_snoc L n d j
    · rw [if_neg h, if_neg h]
      simp
theorem walk_parent {L : List S58} {d : List ByteArray} {n : ByteArray} {k : Nat} (h : walkL L (d ++ [n]) 0 = (k, 0)) : (walkL L d 0).2 = 0 ∧ (at_ L (walkL L d 0).1).f1 = true ∧ whose (at_ L (walkL L d 0).1).f3 n = some k := by
  rw [walkL_snoc] at h
  by_cases h1 : (walkL L d 0).2 ≠ 0
  · rw [if_pos h1] at h; injection h with _ h; exact absurd h h1
  · rw [if_neg h1] at h
    by_cases h2 : (at_ L (walkL L d 0).1).f1 = true
    · rw [if_pos h2] at h
      cases hw : whose (at_ L (walkL L d 0).1).f3 n with
      | none => rw [hw] at h; cases h
      | some j => rw [hw] at h; cases h; exact ⟨by omega, h2, rfl⟩
    · rw [if_neg h2] at h; cases h
theorem rRemove_bad {r : RS} {l : List ByteArray} {dir : Bool} {k : Nat} {e : Int} (h : walkL r.L l 0 = (k, e)) (he : e ≠ 0) : rRemove r l dir = (r, e) := by unfold rRemove; rw [h]; simp only; rw [if_pos he]
set_option maxRecDepth 100000 in
set_option maxHeartbeats 4000000 in
theorem rremove_bad (w : World) (q b : Nat) (r : RS) (h : RefAt w q b r) {way : Nat → List ByteArray} (hG : Good r.L way) {N : Nat} (hL : Lim r N) (A : Option Addr) (c : Nat) (l : List ByteArray) (hl : Kd.C Kd.string w A l.length l) (hc : l.length ≤ c) (dir : Bool)
    (k : Nat) (e : Int) (hke : walkL r.L l 0 = (k, e)) (n : Int) (hres : rRemove r l dir = (r, n)) (hn : n ≠ 0) (hcase : e ≠ 0 ∨ (e = 0 ∧ (((dir = true ∧ (at_ r.L k).f1 = false) ∧ n = 11) ∨ ((dir = false ∧ (at_ r.L k).f1 = true) ∧ n = 10) ∨ ((dir = true ∧ (at_ r.L k).f1 = true ∧ (l = [] ∨ named (at_ r.L k).f3 ≠ [])) ∧ n = 13)))) :
    Calls Tryz.prog 24 #[.pointer (some ⟨q, 0, none⟩), .slice A l.length c, .bool dir] w fun e w' => e = .returned (.int .i64 n) ∧ DidR w q b r w' := by
  have hwalk := walk_ref h hG hL A c l hl hc
  have hlt := walk_lt hG l
  simp only [hke] at hwalk hlt
  have HH := Lib.hid h
  rcases hcase with he | ⟨rfl, hcase⟩
  · have hn' : n = e := by have := rRemove_bad (dir := dir) hke he; rw [hres] at this; injection this
    subst hn'
    have hde : (n != 0) = true := by simpa using he
    clear h hl hres hke
    go_enter Tryz.func24, Tryz.ntmps24
    go_wp2_with (first | (go_at_call 43; refine hwalk.mono ?_; rintro e w1 ⟨rfl, n1, rfl⟩))
    go_ret
    exact ⟨rfl, DidR.none HH.out (pw_below_drewN (Below.refl _ _) _)⟩
  · obtain ⟨cap, hbox, hrow⟩ := h.row
    obtain ⟨c0, c1, c2⟩ := hbox.cells
    obtain ⟨v2, v3, e0, e1, e2, e3, hv2, hv3, hfz⟩ := ref_elem hrow k hlt
    obtain ⟨A3, k3, rfl, hk3, hC3⟩ := Kd.R_reads hv3
    have hkl : (k : Int) < (r.L.length : Int) := by omega
    have hl3 := hL.slots k
    have hsm := hL.small
    have hnm := fun m => rnames_calls A3 k3 (at_ r.L k).f3 (w.drewN m) (Kd.C_drewN hC3 m) hk3 (by omega)
    have hl0 : l = [] ∨ 0 < l.length := by cases l <;> simp
    clear h hl hres hke hrow hv2 hv3 hbox hC3
    rcases hcase with ⟨⟨rfl, hd⟩, rfl⟩ | ⟨⟨rfl, hd⟩, rfl⟩ | ⟨⟨rfl, hd, hx⟩, rfl⟩
    · rw [hd] at e1
      generalize (at_ r.L k).f3.length = n3 at *
      generalize r.L.length = nL at *
      go_enter Tryz.func24, Tryz.ntmps24
      go_wp2_with (first | (go_at_call 43; refine hwalk.mono ?_; rintro e w1 ⟨rfl, n1, rfl⟩))
      go_ret
      exact ⟨rfl, DidR.none HH.out (pw_below_drewN (Below.refl _ _) _)⟩
    · rw [hd] at e1
      generalize (at_ r.L k).f3.length = n3 at *
      generalize r.L.length = nL at *
      go_enter Tryz.func24, Tryz.ntmps24
      go_wp2_with (first | (go_at_call 43; refine hwalk.mono ?_; rintro e w1 ⟨rfl, n1, rfl⟩))
      go_ret
      exact ⟨rfl, DidR.none HH.out (pw_below_drewN (Below.refl _ _) _)⟩
    · rw [hd] at e1
      generalize (at_ r.L k).f3.length = n3 at *
      generalize r.L.length = nL at *
      rcases hl0 with h0 | h0
      · subst h0
        go_enter Tryz.func24, Tryz.ntmps24
        go_wp2_with (first | (go_at_call 43; refine hwalk.mono ?_; rintro e w1 ⟨rfl, n1, rfl⟩))
        go_ret
        exact ⟨rfl, DidR.none HH.out (pw_below_drewN (Below.refl _ _) _)⟩
      · have hnn : named (at_ r.L k).f3 ≠ [] := hx.resolve_left (fun e => by rw [e] at h0; simp at h0)
        have hp : 0 < (named (at_ r.L k).f3).length := List.length_pos_iff.2 hnn
        have hd0 : ((l.length : Int) == 0) = false := beq_eq_false_iff_ne.2 (by omega)
        have hd0' : ¬ (l.length : Int) = 0 := by omega
        have hd0'' : ¬ l.length = 0 := by omega
        have hp1 : decide (0 < (named (at_ r.L k).f3).length) = true := decide_eq_true hp
        have hp2 : decide (0 < ((named (at_ r.L k).f3).length : Int)) = true := decide_eq_true (Int.ofNat_lt.2 hp)
        generalize (named (at_ r.L k).f3).length = nn at *
        clear hx hnn
        go_enter Tryz.func24, Tryz.ntmps24
        go_wp2_with (first
          | (go_at_call 43; refine hwalk.mono ?_; rintro e w1 ⟨rfl, n1, rfl⟩)
          | (go_at_call 50; refine (hnm n1).mono ?_; rintro e w2 ⟨A', c', rfl, _, _, hb2⟩))
        go_ret
        exact ⟨rfl, DidR.none HH.out ((pw_below_drewN (Below.refl _ _) n1).trans hb2)⟩
theorem rRemove_ok {r : RS} {d : List ByteArray} {nm : ByteArray} {dir : Bool} {k a : Nat} (hk : walkL r.L (d ++ [nm]) 0 = (k, 0)) (ha : walkL r.L d 0 = (a, 0)) (hd : (at_ r.L k).f1 = dir) (hn : dir = true → named (at_ r.L k).f3 = []) :
    rRemove r (d ++ [nm]) dir = ({ rFree r k with L := setF3 (rFree r k).L a (takeS (at_ (rFree r k).L a).f3 nm) }, 0) := by
  unfold rRemove
  rw [hk, List.dropLast_concat, List.getLastD_concat, ha]
  simp only
  rw [if_neg (by decide), if_neg (by rw [hd]; rintro ⟨h1, h2⟩; rw [h1] at h2; cases h2), if_neg (by rw [hd]; rintro ⟨h1, h2⟩; rw [h1] at h2; cases h2), if_neg (by rintro ⟨h1, h2⟩; exact h2.elim (fun h => by simp at h) (fun h => h (hn h1)))]
set_option maxRecDepth 100000 in
set_option maxHeartbeats 4000000 in
theorem rremove_ok (w : World) (q b : Nat) (r : RS) (h : RefAt w q b r) {way : Nat → List ByteArray} (hG : Good r.L way) {N : Nat} (hL : Lim r N) (A : Option Addr) (c : Nat) (d : List ByteArray) (nm : ByteArray) (hl : Kd.C Kd.string w A (d.length + 1) (d ++ [nm])) (hc : d.length + 1 ≤ c) (hlB : ∀ ad, A = some ad → ∃ cs fr, w.heap[ad.block]? = some (.cells cs 9 fr)) (dir : Bool)
    (k : Nat) (hke : walkL r.L (d ++ [nm]) 0 = (k, 0)) (hd : (at_ r.L k).f1 = dir) (hn : dir = true → named (at_ r.L k).f3 = []) :
    Calls Tryz.prog 24 #[.pointer (some ⟨q, 0, none⟩), .slice A (d.length + 1) c, .bool dir] w fun e w' => e = .returned (.int .i64 0) ∧ DidR w q b (rRemove r (d ++ [nm]) dir).1 w' := by
  obtain ⟨hdC, ad, rfl, hnmc⟩ := C_snoc hl
  obtain ⟨csA, frA, hadB⟩ := hlB ad rfl
  obtain ⟨p1, p2, p3⟩ := walk_parent hke
  obtain ⟨a, ha⟩ : ∃ a, walkL r.L d 0 = (a, 0) := ⟨_, Prod.ext rfl p1⟩
  rw [ha] at p2 p3
  simp only at p2 p3
  have hres := rRemove_ok hke ha hd hn
  have hal := walk_lt hG d
  have hkl := walk_lt hG (d ++ [nm])
  rw [ha] at hal
  rw [hke] at hkl
  simp only at hal hkl
  have hlive := (walk_way hG (l := d) (by rw [ha])).1
  rw [ha] at hlive
  have hak := (kid_ne hG hlive p3).2.2.1
  have hwalk := walk_ref h hG hL (some ad) c (d ++ [nm]) (by simpa using hl) (by simpa using hc)
  rw [hke] at hwalk
  simp only [List.length_append, List.length_singleton] at hwalk
  have hwalk2 := fun W (hW : Below w.heap.size w W) => walk_ref (h.below hW) hG hL (some ad) c d (Kd.C_below hdC hW) (by omega)
  rw [ha] at hwalk2
  simp only at hwalk2
  have hfree := fun W (hW : Below w.heap.size w W) => free51_calls W q b r (h.below hW) hL k hkl
  have HH := Lib.hid h
  have hatS : (atS (at_ r.L a).f3 nm).isSome := by rw [← whose_isSome, p3]; rfl
  obtain ⟨j, hj⟩ := Option.isSome_iff_exists.1 hatS
  have haf : at_ (rFree r k).L a = at_ r.L a := by show at_ (r.L.set k z58) a = _; rw [at_set _ _ _ hkl, if_neg (fun e => hak e.symm)]
  have hl3a := hL.slots a
  have hsm := hL.small
  obtain ⟨xt, htk⟩ := take_f (at_ r.L a).f3 nm (by omega) j hj (2 * (at_ r.L a).f3.length + 60) (Nat.le_refl _)
  obtain ⟨cap, hbox, hrow⟩ := h.row
  obtain ⟨c0, c1, c2⟩ := hbox.cells
  obtain ⟨v2, v3, e0, e1, e2, e3, hv2, hv3, hfz⟩ := ref_elem hrow k hkl
  obtain ⟨A3, k3, rfl, hk3, hC3⟩ := Kd.R_reads hv3
  have hl3 := hL.slots k
  have hnm := fun W (hW : Below w.heap.size w W) => rnames_calls A3 k3 (at_ r.L k).f3 W (Kd.C_below hC3 hW) hk3 (by omega)
  have hkli : (k : Int) < (r.L.length : Int) := by omega
  have hali : (a : Int) < (r.L.length : Int) := by omega
  have hqlt := hbox.lt
  have hblt := h.row_lt
  have hadl := World.block_lt_of_cell? w _ hnmc
  have hadq : ad.block ≠ q := fun e => by rw [e, show w.heap[q]? = _ from hbox] at hadB; cases hadB
  have hadb : ad.block ≠ b := fun e => by
    obtain ⟨cs, hcs⟩ := h.typ (by omega)
    rw [e, hcs] at hadB; cases hadB
  have hcc : (d.length : Int) + 1 ≤ c := by omega
  have hmxd := Kd.C_max hl
  have hdl : (d.length : Int) < (d.length : Int) + 1 := by omega
  have hrl : (rFree r k).L.length = r.L.length := by show (r.L.set k z58).length = _; simp
  rw [hres]
  rw [hd] at e1
  have HD := Lib.hid hn
  have hd0 : ((d.length : Int) + 1 == 0) = false := beq_eq_false_iff_ne.2 (by omega)
  have hd0' : ¬ ((d.length : Int) + 1 = 0) := by omega
  clear h hres hke ha p1 p2 p3 hlive hatS hrow hv2 hv3 hbox hC3 hl hdC hd hn hlB hadB
  generalize hn3 : (at_ r.L k).f3.length = n3 at *
  generalize hnL : r.L.length = nL at *
  have HnL := Lib.hid hnL
  clear hnL hn3
  cases dir
  · go_enter Tryz.func24, Tryz.ntmps24
    go_wp2_with (first
      | (go_at_call 43; with_reducible refine hwalk.mono ?_; rintro e w1 ⟨rfl, n1, rfl⟩)
      | (go_at_call 43; refine (hwalk2 _ (by exact pw_below_drewN (Below.refl _ _) _)).mono ?_; rintro e w1 ⟨rfl, n2, rfl⟩)
      | (go_at_call 51; refine (hfree _ (by first | exact pw_below_drewN (Below.refl _ _) _ | exact pw_below_drewN (pw_below_drewN (Below.refl _ _) _) _)).mono ?_; rintro e w1 ⟨rfl, b1, hR1, hK1, hb1⟩
         have hnm1 : w1.cell? (ad.add d.length) = some (.string nm) := hK1.cell ((Below.cell (by first | exact pw_below_drewN (Below.refl _ _) _ | exact pw_below_drewN (pw_below_drewN (Below.refl _ _) _) _) hadl).trans hnmc) (fun e => by
           rw [addr_block] at e
           exact e.elim hadq hadb)
         obtain ⟨cap1, hq1, hr1⟩ := hR1.row
         obtain ⟨t0, t1, t2⟩ := hq1.cells
         have hqz := hq1.lt
         have hbz := hR1.row_lt
         have hadz := World.block_lt_of_cell? w1 _ hnm1
         obtain ⟨p2, p3, k0, k1, k2, k3', hp2, hp3, hpz⟩ := ref_elem hr1 a (by rw [hrl]; omega)
         have pz3 := hpz 3
         obtain ⟨A4, k4, rfl, hk4, hC4⟩ := Kd.R_reads hp3
         rw [haf] at hk4 hC4 k3'
         rw [hrl] at t0
         have htake := fun W (hW : Below w1.heap.size w1 W) => PTreeTwins.mailbagref9_Take.calls (2 * (at_ r.L a).f3.length + 60) A4 k4 (at_ r.L a).f3 nm _ xt 0 W (Kd.C_below hC4 hW) hk4 htk
         have hcellb : ∀ (p : Addr) (v : Value) (W : World), w1.cell? p = some v → Below w1.heap.size w1 W → W.cell? p = some v := fun p v W hp hW => (hW.cell (World.block_lt_of_cell? w1 p hp)).trans hp
         have hk51 : Keeps (fun k => k = q ∨ k = b) w w1 := (Keeps.of_below (by first | exact pw_below_drewN (Below.refl _ _) _ | exact pw_below_drewN (pw_below_drewN (Below.refl _ _) _) _) : Keeps (fun k => k = q ∨ k = b) w _).trans hK1
         have hb51 : b1 = b ∨ w.heap.size ≤ b1 := hb1.imp id (fun h => Nat.le_trans (Below.size (B := w.heap.size) (by first | exact pw_below_drewN (Below.refl _ _) _ | exact pw_below_drewN (pw_below_drewN (Below.refl _ _) _) _)) h)
         clear hp2 hp3 hr1 hC4 k0 k1 k2 hq1))
    generalize hn4 : (at_ r.L a).f3.length = n4 at *
    go_region_held3 (fun W' => W'.cell? ⟨q, 0, none⟩ = some (.slice (some ⟨b1, 0, none⟩) nL cap1) ∧ W'.cell? ⟨b1, a * 4 + 3, none⟩ = some (.slice A4 n4 k4) ∧ W'.cell? (ad.add d.length) = some (.string nm))
      (first | go_keep | assumption)
      (first
        | (go_at_call 52; refine (htake _ (by exact pw_below_drewN (Below.refl _ _) _)).mono ?_; rintro e w2 ⟨vS, rfl, hRS, hb2⟩
           obtain ⟨AS, cS, rfl, hcS, _⟩ := Kd.R_reads hRS
           have hB2 : Below w1.heap.size w1 w2 := (pw_below_drewN (Below.refl _ _) _).trans hb2
           have hS2 : w2.cell? ⟨q, 0, none⟩ = some (.slice (some ⟨b1, 0, none⟩) nL cap1) ∧ w2.cell? ⟨b1, a * 4 + 3, none⟩ = some (.slice A4 n4 k4) ∧ w2.cell? (ad.add d.length) = some (.string nm) := ⟨hcellb _ _ _ t0 hB2, hcellb _ _ _ k3' hB2, hcellb _ _ _ hnm1 hB2⟩))
    all_goals
      obtain ⟨z0, z1, z2⟩ := hS2
      have z3 := hB2.frozen (p := ⟨b1, a * 4 + 3, none⟩) hbz
      rw [pz3] at z3
      go_wp2
      go_ret
      refine ⟨rfl, b1, ?_, ?_, hb51⟩
      · rw [haf]
        exact (hR1.below hB2).setS a (by rw [hrl]; omega) _ _ (Kd.R_mono (Kd.R_lower (Kd.R_bound hRS) (Nat.zero_le _)) (fun k hk => ⟨trivial, fun e => by have h5 : w1.heap.size ≤ k := hk.2.1; omega⟩))
      · exact (hk51.trans (Keeps.of_below hB2)).setCell (p := ⟨b1, a * 4 + 3, none⟩) (by rcases hb51 with e | e; exact .inl (.inr e); exact .inr e) _
  · rw [HD.out rfl] at hnm
    simp only [List.length_nil] at hnm
    go_enter Tryz.func24, Tryz.ntmps24
    go_wp2_with (first
      | (go_at_call 43; with_reducible refine hwalk.mono ?_; rintro e w1 ⟨rfl, n1, rfl⟩)
      | (go_at_call 50; refine (hnm _ (by exact pw_below_drewN (Below.refl _ _) _)).mono ?_; rintro e w0 ⟨A', c', rfl, _, _, hb0⟩)
      | (go_at_call 43; refine (hwalk2 _ (by exact (pw_below_drewN (Below.refl _ _) _).trans hb0)).mono ?_; rintro e w1 ⟨rfl, n2, rfl⟩)
      | (go_at_call 51; refine (hfree _ (by exact pw_below_drewN ((pw_below_drewN (Below.refl _ _) _).trans hb0) _)).mono ?_; rintro e w1 ⟨rfl, b1, hR1, hK1, hb1⟩
         have hnm1 : w1.cell? (ad.add d.length) = some (.string nm) := hK1.cell ((Below.cell (by exact pw_below_drewN ((pw_below_drewN (Below.refl _ _) _).trans hb0) _) hadl).trans hnmc) (fun e => by
           rw [addr_block] at e
           exact e.elim hadq hadb)
         obtain ⟨cap1, hq1, hr1⟩ := hR1.row
         obtain ⟨t0, t1, t2⟩ := hq1.cells
         have hqz := hq1.lt
         have hbz := hR1.row_lt
         have hadz := World.block_lt_of_cell? w1 _ hnm1
         obtain ⟨p2, p3, k0, k1, k2, k3', hp2, hp3, hpz⟩ := ref_elem hr1 a (by rw [hrl]; omega)
         have pz3 := hpz 3
         obtain ⟨A4, k4, rfl, hk4, hC4⟩ := Kd.R_reads hp3
         rw [haf] at hk4 hC4 k3'
         rw [hrl] at t0
         have htake := fun W (hW : Below w1.heap.size w1 W) => PTreeTwins.mailbagref9_Take.calls (2 * (at_ r.L a).f3.length + 60) A4 k4 (at_ r.L a).f3 nm _ xt 0 W (Kd.C_below hC4 hW) hk4 htk
         have hcellb : ∀ (p : Addr) (v : Value) (W : World), w1.cell? p = some v → Below w1.heap.size w1 W → W.cell? p = some v := fun p v W hp hW => (hW.cell (World.block_lt_of_cell? w1 p hp)).trans hp
         have hk51 : Keeps (fun k => k = q ∨ k = b) w w1 := (Keeps.of_below (by exact pw_below_drewN ((pw_below_drewN (Below.refl _ _) _).trans hb0) _) : Keeps (fun k => k = q ∨ k = b) w _).trans hK1
         have hb51 : b1 = b ∨ w.heap.size ≤ b1 := hb1.imp id (fun h => Nat.le_trans (Below.size (B := w.heap.size) (by exact pw_below_drewN ((pw_below_drewN (Below.refl _ _) _).trans hb0) _)) h)
         clear hp2 hp3 hr1 hC4 k0 k1 k2 hq1))
    generalize hn4 : (at_ r.L a).f3.length = n4 at *
    go_region_held3 (fun W' => W'.cell? ⟨q, 0, none⟩ = some (.slice (some ⟨b1, 0, none⟩) nL cap1) ∧ W'.cell? ⟨b1, a * 4 + 3, none⟩ = some (.slice A4 n4 k4) ∧ W'.cell? (ad.add d.length) = some (.string nm))
      (first | go_keep | assumption)
      (first
        | (go_at_call 52; refine (htake _ (by exact pw_below_drewN (Below.refl _ _) _)).mono ?_; rintro e w2 ⟨vS, rfl, hRS, hb2⟩
           obtain ⟨AS, cS, rfl, hcS, _⟩ := Kd.R_reads hRS
           have hB2 : Below w1.heap.size w1 w2 := (pw_below_drewN (Below.refl _ _) _).trans hb2
           have hS2 : w2.cell? ⟨q, 0, none⟩ = some (.slice (some ⟨b1, 0, none⟩) nL cap1) ∧ w2.cell? ⟨b1, a * 4 + 3, none⟩ = some (.slice A4 n4 k4) ∧ w2.cell? (ad.add d.length) = some (.string nm) := ⟨hcellb _ _ _ t0 hB2, hcellb _ _ _ k3' hB2, hcellb _ _ _ hnm1 hB2⟩))
    all_goals
      obtain ⟨z0, z1, z2⟩ := hS2
      have z3 := hB2.frozen (p := ⟨b1, a * 4 + 3, none⟩) hbz
      rw [pz3] at z3
      go_wp2
      go_ret
      refine ⟨rfl, b1, ?_, ?_, hb51⟩
      · rw [haf]
        exact (hR1.below hB2).setS a (by rw [hrl]; omega) _ _ (Kd.R_mono (Kd.R_lower (Kd.R_bound hRS) (Nat.zero_le _)) (fun k hk => ⟨trivial, fun e => by have h5 : w1.heap.size ≤ k := hk.2.1; omega⟩))
      · exact (hk51.trans (Keeps.of_below hB2)).setCell (p := ⟨b1, a * 4 + 3, none⟩) (by rcases hb51 with e | e; exact .inl (.inr e); exact .inr e) _
theorem rremove_calls (w : World) (q b : Nat) (r : RS) (h : RefAt w q b r) {way : Nat → List ByteArray} (hG : Good r.L way) {N : Nat} (hL : Lim r N) (A : Option Addr) (c : Nat) (l : List ByteArray) (hl : Kd.C Kd.string w A l.length l) (hc : l.length ≤ c) (hlB : ∀ ad, A = some ad → ∃ cs fr, w.heap[ad.block]? = some (.cells cs 9 fr)) (dir : Bool) :
    Calls Tryz.prog 24 #[.pointer (some ⟨q, 0, none⟩), .slice A l.length c, .bool dir] w fun e w' => e = .returned (.int .i64 (rRemove r l dir).2) ∧ DidR w q b (rRemove r l dir).1 w' := by
  obtain ⟨k, e, hke⟩ : ∃ k e, walkL r.L l 0 = (k, e) := ⟨_, _, rfl⟩
  have bad := fun (n : Int) (hres : rRemove r l dir = (r, n)) (hn : n ≠ 0) hcase => rremove_bad w q b r h hG hL A c l hl hc dir k e hke n hres hn hcase
  by_cases he : e = 0
  · subst he
    by_cases h1 : dir = true ∧ (at_ r.L k).f1 = false
    · have hres : rRemove r l dir = (r, 11) := by unfold rRemove; rw [hke]; simp only; rw [if_neg (by decide), if_pos h1]
      rw [hres]
      exact bad 11 hres (by decide) (.inr ⟨rfl, .inl ⟨h1, rfl⟩⟩)
    by_cases h2 : dir = false ∧ (at_ r.L k).f1 = true
    · have hres : rRemove r l dir = (r, 10) := by unfold rRemove; rw [hke]; simp only; rw [if_neg (by decide), if_neg h1, if_pos h2]
      rw [hres]
      exact bad 10 hres (by decide) (.inr ⟨rfl, .inr (.inl ⟨h2, rfl⟩)⟩)
    by_cases h3 : dir = true ∧ (l = [] ∨ named (at_ r.L k).f3 ≠ [])
    · have hres : rRemove r l dir = (r, 13) := by unfold rRemove; rw [hke]; simp only; rw [if_neg (by decide), if_neg h1, if_neg h2, if_pos h3]
      rw [hres]
      exact bad 13 hres (by decide) (.inr ⟨rfl, .inr (.inr ⟨⟨h3.1, by cases hd : (at_ r.L k).f1 with | true => rfl | false => exact absurd ⟨h3.1, hd⟩ h1, h3.2⟩, rfl⟩)⟩)
    have hd : (at_ r.L k).f1 = dir := by
      cases hd : (at_ r.L k).f1 <;> cases dir <;> simp_all
    have hl0 : l ≠ [] := by
      rintro rfl
      cases hke
      rw [hG.root.2.1] at hd
      subst hd
      exact h3 ⟨rfl, .inl rfl⟩
    obtain ⟨d, nm, rfl⟩ : ∃ d nm, l = d ++ [nm] := ⟨l.dropLast, l.getLast hl0, (List.dropLast_concat_getLast hl0).symm⟩
    have hpar := walk_parent hke
    have h0 : (rRemove r (d ++ [nm]) dir).2 = 0 := by
      rw [rRemove_ok (a := (walkL r.L d 0).1) hke (Prod.ext rfl hpar.1) hd (fun e => Classical.byContradiction fun hne => h3 ⟨e, .inr hne⟩)]
    rw [h0]
    simp only [List.length_append, List.length_singleton] at hl hc ⊢
    exact rremove_ok w q b r h hG hL A c d nm hl hc hlB dir k hke hd (fun e => Classical.byContradiction fun hne => h3 ⟨e, .inr hne⟩)
  · have hres := rRemove_bad (dir := dir) hke he
    rw [hres]
    exact bad e hres he (.inl he)
end Go.Proofs.YtmjhflmkgmfjkaaGreatDoor
namespace Go.Proofs.YtmjhflmkgmfjkaaGreatDoor
open Go.RowKit Go.Proofs.YtmjhflmkgmfjkaaGreatDoorW.PrintWords Go.Proofs.YtmjhflmkgmfjkaaGreatDoorW.PrintMore
open PTreeTwins (S58 S106 S35 z58 z106 k58 k106)
set_option maxRecDepth 100000 in
set_option maxHeartbeats 4000000 in
theorem rrename_bad (w : World) (q b : Nat) (r : RS) (h : RefAt w q b r) {way : Nat → List ByteArray} (hG : Good r.L way) {N : Nat} (hL : Lim r N) (A B : Option Addr) (cA cB : Nat) (l m : List ByteArray) (hl : Kd.C Kd.string w A l.length l) (hcA : l.length ≤ cA) (hm : Kd.C Kd.string w B m.length m) (hcB : m.length ≤ cB)
    (k : Nat) (e : Int) (hke : walkL r.L l 0 = (k, e)) (n : Int) (hres : rRename r l m = (r, n)) (td : Nat) (e2 : Int) (hke2 : walkL r.L m.dropLast 0 = (td, e2)) (hcase : (e ≠ 0 ∧ n = e) ∨ (e = 0 ∧ ((l = [] ∨ m = []) ∧ n = 13)) ∨ (e = 0 ∧ l ≠ [] ∧ m ≠ [] ∧ ((e2 ≠ 0 ∧ n = e2) ∨ (e2 = 0 ∧ (at_ r.L td).f1 = false ∧ n = 11)))) :
    Calls Tryz.prog 25 #[.pointer (some ⟨q, 0, none⟩), .slice A l.length cA, .slice B m.length cB] w fun e w' => e = .returned (.int .i64 n) ∧ DidR w q b r w' := by
  have hwalk := walk_ref h hG hL A cA l hl hcA
  simp only [hke] at hwalk
  have hmxl := Kd.C_max hl
  have hmxm := Kd.C_max hm
  have HH := Lib.hid h
  rcases hcase with ⟨he, rfl⟩ | ⟨rfl, hcase, rfl⟩ | ⟨rfl, hl0, hm0, hcase⟩
  · have hde : (n != 0) = true := by simpa using he
    clear h hl hm hres hke hke2
    go_enter Tryz.func25, Tryz.ntmps25
    go_wp2_with (first | (go_at_call 43; refine hwalk.mono ?_; rintro e w1 ⟨rfl, n1, rfl⟩))
    go_ret
    exact ⟨rfl, DidR.none HH.out (pw_below_drewN (Below.refl _ _) _)⟩
  · by_cases hl0 : l = []
    · subst hl0
      clear h hl hm hres hke hke2
      go_enter Tryz.func25, Tryz.ntmps25
      go_wp2_with (first | (go_at_call 43; refine hwalk.mono ?_; rintro e w1 ⟨rfl, n1, rfl⟩))
      go_ret
      exact ⟨rfl, DidR.none HH.out (pw_below_drewN (Below.refl _ _) _)⟩
    · have hm0 : m = [] := hcase.resolve_left hl0
      subst hm0
      have hp : 0 < l.length := List.length_pos_iff.2 hl0
      have hd0 : ((l.length : Int) == 0) = false := beq_eq_false_iff_ne.2 (by omega)
      have hd0' : ¬ (l.length : Int) = 0 := by omega
      have hd0'' : ¬ l.length = 0 := by omega
      clear h hl hm hres hke hke2
      go_enter Tryz.func25, Tryz.ntmps25
      go_wp2_with (first | (go_at_call 43; refine hwalk.mono ?_; rintro e w1 ⟨rfl, n1, rfl⟩))
      go_ret
      exact ⟨rfl, DidR.none HH.out (pw_below_drewN (Below.refl _ _) _)⟩
  · have hp : 0 < l.length := List.length_pos_iff.2 hl0
    have hd0 : ((l.length : Int) == 0) = false := beq_eq_false_iff_ne.2 (by omega)
    have hd0' : ¬ (l.length : Int) = 0 := by omega
    have hd0'' : ¬ l.length = 0 := by omega
    obtain ⟨d2, n2, rfl⟩ : ∃ d nm, m = d ++ [nm] := ⟨m.dropLast, m.getLast hm0, (List.dropLast_concat_getLast hm0).symm⟩
    rw [List.dropLast_concat] at hke2
    simp only [List.length_append, List.length_singleton] at hm hcB hmxm ⊢
    obtain ⟨hd2C, bd, rfl, hn2c⟩ := C_snoc hm
    have hwalk2 := fun W (hW : Below w.heap.size w W) => walk_ref (h.below hW) hG hL (some bd) cB d2 (Kd.C_below hd2C hW) (by omega)
    rw [hke2] at hwalk2
    simp only at hwalk2
    have hg0 : ((d2.length : Int) + 1 == 0) = false := beq_eq_false_iff_ne.2 (by omega)
    have hg0' : ¬ (d2.length : Int) + 1 = 0 := by omega
    have hcc : (d2.length : Int) + 1 ≤ cB := by omega
    have htd := walk_lt hG d2
    rw [hke2] at htd
    simp only at htd
    obtain ⟨cap, hbox, hrow⟩ := h.row
    obtain ⟨c0, c1, c2⟩ := hbox.cells
    obtain ⟨v2, v3, e0, e1, e2', e3, hv2, hv3, hfz⟩ := ref_elem hrow td htd
    have htdi : (td : Int) < (r.L.length : Int) := by omega
    rcases hcase with ⟨he, rfl⟩ | ⟨rfl, hdir, rfl⟩
    · have hde : (n != 0) = true := by simpa using he
      clear h hl hm hres hke hke2 hd2C hn2c hv2 hv3 hrow hbox
      generalize r.L.length = nL at *
      go_enter Tryz.func25, Tryz.ntmps25
      go_wp2_with (first
        | (go_at_call 43; with_reducible refine hwalk.mono ?_; rintro e w1 ⟨rfl, n1, rfl⟩)
        | (go_at_call 43; refine (hwalk2 _ (by exact pw_below_drewN (Below.refl _ _) _)).mono ?_; rintro e w1 ⟨rfl, n2, rfl⟩))
      go_ret
      exact ⟨rfl, DidR.none HH.out (by first | exact pw_below_drewN (Below.refl _ _) _ | exact pw_below_drewN (pw_below_drewN (Below.refl _ _) _) _)⟩
    · rw [hdir] at e1
      clear h hl hm hres hke hke2 hd2C hn2c hv2 hv3 hrow hbox
      generalize r.L.length = nL at *
      go_enter Tryz.func25, Tryz.ntmps25
      go_wp2_with (first
        | (go_at_call 43; with_reducible refine hwalk.mono ?_; rintro e w1 ⟨rfl, n1, rfl⟩)
        | (go_at_call 43; refine (hwalk2 _ (by exact pw_below_drewN (Below.refl _ _) _)).mono ?_; rintro e w1 ⟨rfl, n2, rfl⟩))
      go_ret
      exact ⟨rfl, DidR.none HH.out (by first | exact pw_below_drewN (Below.refl _ _) _ | exact pw_below_drewN (pw_below_drewN (Below.refl _ _) _) _)⟩
end Go.Proofs.YtmjhflmkgmfjkaaGreatDoor
