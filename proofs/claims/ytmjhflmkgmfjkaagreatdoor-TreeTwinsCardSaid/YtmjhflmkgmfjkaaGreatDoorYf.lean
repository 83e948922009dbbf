/- A part of the proof: Y13, Y14, Y15. -/
import Derived.Test.YtmjhflmkgmfjkaaGreatDoorYe
set_option linter.unusedVariables false
set_option linter.unusedSimpArgs false
namespace Go.Proofs.YtmjhflmkgmfjkaaGreatDoor
open Go.RowKit Go.Proofs.YtmjhflmkgmfjkaaGreatDoorW.PrintWords Go.Proofs.YtmjhflmkgmfjkaaGreatDoorW.PrintMore
open PTreeTwins (S58 S106 S35 z58 z106 k58 k106)
theorem rnames_calls (A : Option Addr) (c : Nat) (s : List S106) (w : World) (hs : Kd.C k106 w A s.length s) (hc : s.length ≤ c) (hb : s.length ≤ 100000) :
    Calls Tryz.prog 50 #[.slice A s.length c] w fun e w' => ∃ A' c', e = .returned (.slice A' (named s).length c') ∧ (named s).length ≤ c' ∧ Kd.R Kd.string 9 w' w.heap.size (fun _ => True) (.slice A' (named s).length c') (namesOf s) ∧ Below w.heap.size w w' := by
  refine (PTreeTwins.mailbagref9_Names.calls (s.length * (s.length + 3) + 1) A c s (namesOf s) w hs hc (names_f s hb _ (Nat.le_refl _))).mono ?_
  rintro e w' ⟨v, rfl, hR, hB⟩
  obtain ⟨A', c', rfl, hc', _⟩ := Kd.R_reads hR
  rw [namesOf_length] at hR hc'
  exact ⟨A', c', by rw [namesOf_length], hc', hR, hB⟩
set_option maxRecDepth 100000 in
set_option maxHeartbeats 2000000 in
theorem over_calls (w : World) (q b : Nat) (r : RS) (h : RefAt w q b r) {N : Nat} (hL : Lim r N) (i j : Nat) (hi : i < r.L.length) (hj : j < r.L.length) :
    Calls Tryz.prog 53 #[.pointer (some ⟨q, 0, none⟩), .int .i64 i, .int .i64 j] w fun e w' => e = .returned (.int .i64 (rOver r.L i j)) ∧ Below w.heap.size w w' := by
  obtain ⟨cap, hbox, hrow⟩ := h.row
  obtain ⟨c0, c1, c2⟩ := hbox.cells
  obtain ⟨v2, v3, e0, e1, e2, e3, hv2, hv3, hfz⟩ := ref_elem hrow i hi
  obtain ⟨u2, u3, d0, d1, d2, d3, hu2, hu3, hfu⟩ := ref_elem hrow j hj
  obtain ⟨A3, k3, rfl, hk3, hC3⟩ := Kd.R_reads hu3
  have hsl := hL.slots j
  have hsm := hL.small
  have hnm := rnames_calls A3 k3 (at_ r.L j).f3 w hC3 hk3 (by omega)
  have hil : (i : Int) < (r.L.length : Int) := by omega
  have hjl : (j : Int) < (r.L.length : Int) := by omega
  have hnil : decide (0 < ((named (at_ r.L j).f3).length : Int)) = !decide (named (at_ r.L j).f3 = []) := by
    cases named (at_ r.L j).f3 with
    | nil => rfl
    | cons x l => simp
  have hres : rOver r.L i j = if (at_ r.L j).f1 = true ∧ (at_ r.L i).f1 = false then 10 else if (at_ r.L j).f1 = false ∧ (at_ r.L i).f1 = true then 11 else if (at_ r.L j).f1 = true ∧ named (at_ r.L j).f3 ≠ [] then 13 else 0 := rfl
  rw [hres]
  clear h hrow hv2 hv3 hu2 hu3 hbox hC3 hres
  generalize (at_ r.L j).f3.length = n3 at *
  generalize (at_ r.L j).f1 = dj at *
  generalize (at_ r.L i).f1 = di at *
  generalize r.L.length = nL at *
  by_cases hn : named (at_ r.L j).f3 = []
  · have hl : ((named (at_ r.L j).f3).length : Int) = 0 := by rw [hn]; rfl
    generalize (named (at_ r.L j).f3).length = nn at *
    cases dj <;> cases di
    all_goals
      go_enter Tryz.func53, Tryz.ntmps53
      go_wp2_with (first | (go_at_call 50; refine hnm.mono ?_; rintro e w1 ⟨A', c', rfl, _, _, hb1⟩))
      go_ret
      first | exact ⟨by simp [hn], Below.refl _ _⟩ | exact ⟨by simp [hn], hb1⟩
  · have hl : decide (0 < ((named (at_ r.L j).f3).length : Int)) = true := by rw [hnil]; simp [hn]
    have hl2 : 0 < (named (at_ r.L j).f3).length := List.length_pos_iff.2 hn
    have hl3 : decide (0 < (named (at_ r.L j).f3).length) = true := decide_eq_true hl2
    generalize (named (at_ r.L j).f3).length = nn at *
    cases dj <;> cases di
    all_goals
      go_enter Tryz.func53, Tryz.ntmps53
      go_wp2_with (first | (go_at_call 50; refine hnm.mono ?_; rintro e w1 ⟨A', c', rfl, _, _, hb1⟩))
      go_ret
      first | exact ⟨by simp [hn], Below.refl _ _⟩ | exact ⟨by simp [hn], hb1⟩
end Go.Proofs.YtmjhflmkgmfjkaaGreatDoor
namespace Go.Proofs.YtmjhflmkgmfjkaaGreatDoor
open Go.RowKit Go.Proofs.YtmjhflmkgmfjkaaGreatDoorW.PrintWords Go.Proofs.YtmjhflmkgmfjkaaGreatDoorW.PrintMore
open PTreeTwins (S58 S106 S35 z58 z106 k58 k106)
theorem atS_none {s : List S106} {n : ByteArray} (hn : n ≠ ByteArray.empty) : atS s n = none ↔ ∀ e ∈ s, e.f0 ≠ n := by
  unfold atS
  rw [if_neg hn, List.findIdx?_eq_none_iff]
  simp
theorem atS_first {s : List S106} {n : ByteArray} (hn : n ≠ ByteArray.empty) {j : Nat} (hj : j < s.length) (h0 : (s[j]).f0 = n) (h1 : ∀ i (hi : i < j), (s[i]'(by omega)).f0 ≠ n) : atS s n = some j := by
  unfold atS
  rw [if_neg hn, List.findIdx?_eq_some_iff_getElem]
  exact ⟨hj, by simp [h0], fun i hi => by simpa using h1 i hi⟩
theorem put_at' (s : List S106) (n : ByteArray) (hn : n ≠ ByteArray.empty) (hno : atS s n = none) : ∃ j, atS (putS s n 1) n = some j ∧ j < (putS s n 1).length ∧ ((putS s n 1).getD j z106).f0 = n ∧ ∀ v, putS s n v = (putS s n 1).set j ⟨n, v⟩ := by
  have hall := (atS_none hn).1 hno
  unfold putS
  cases hf : s.findIdx? (fun e => decide (e.f0 = ByteArray.empty)) with
  | none =>
    refine ⟨s.length, atS_first hn (by simp) (by simp) (fun i hi => ?_), by simp, by simp, fun v => by simp⟩
    rw [List.getElem_append_left hi]
    exact hall _ (List.getElem_mem hi)
  | some j =>
    obtain ⟨hj, _, _⟩ := List.findIdx?_eq_some_iff_getElem.1 hf
    refine ⟨j, atS_first hn (by simpa using hj) (by simp) (fun i hi => ?_), by simpa using hj, by simp [List.getD_eq_getElem?_getD, hj], fun v => by simp⟩
    rw [List.getElem_set_ne (by omega)]
    exact hall _ (List.getElem_mem _)
theorem whose_isSome (s : List S106) (n : ByteArray) : (whose s n).isSome = (atS s n).isSome := by
  rw [whose_at, Option.isSome_map]
theorem atI_none {s : List S106} {n : ByteArray} (h : atS s n = none) : atI s n = -1 := by unfold atI; rw [h]
theorem atI_some {s : List S106} {n : ByteArray} {j : Nat} (h : atS s n = some j) : atI s n = (j : Int) := by unfold atI; rw [h]
/-- s[j].Inode = x, in a row of the call's own -/
theorem slot_set {w : World} {base g n cap : Nat} {ok : Nat → Prop} {s : List S106} (h : k106.R 106 w base ok (.slice (some ⟨g, 0, none⟩) n cap) s) (j : Nat) (hj : j < n) (x : Int) :
    w.cell? ⟨g, j * 2 + 1, none⟩ = some (.int .i64 (s.getD j z106).f1) ∧ w.frozen? ⟨g, j * 2 + 1, none⟩ = false ∧ k106.R 106 (w.setCell ⟨g, j * 2 + 1, none⟩ (.int .i64 x)) base ok (.slice (some ⟨g, 0, none⟩) n cap) (s.set j ⟨(s.getD j z106).f0, x⟩) := by
  obtain ⟨c, h1, h2, h3, h4⟩ := Kd.R_elem h z106 (j : Int) (by omega) (by omega)
  rw [Int.toNat_natCast] at h2 h3 h4
  obtain rfl := PTreeTwins.k106_openM h2
  refine ⟨h3 1 _ rfl, h4 1, ?_⟩
  have hM : k106.M w base (fun k => ok k ∧ k ≠ g) (⟨(s.getD j z106).f0, x⟩ : S106) ([.string (s.getD j z106).f0, .int .i64 (s.getD j z106).f1].take 1 ++ [.int .i64 x] ++ [.string (s.getD j z106).f0, .int .i64 (s.getD j z106).f1].drop (1 + [Value.int .i64 x].length)) := PTreeTwins.k106_mkM w base _ ⟨(s.getD j z106).f0, x⟩
  have := (Kd.R_seg h (j : Int) (by omega) (by omega) (c := [.string (s.getD j z106).f0, .int .i64 (s.getD j z106).f1]) (seg := [.int .i64 x]) (j := 1) h1 (by rw [Int.toNat_natCast]; exact h3) (show 1 + 1 ≤ k106.sz by decide) hM (fun k hk => hk)).1
  rw [Int.toNat_natCast] at this
  exact this
end Go.Proofs.YtmjhflmkgmfjkaaGreatDoor
namespace Go.Proofs.YtmjhflmkgmfjkaaGreatDoor
open Go.RowKit Go.Proofs.YtmjhflmkgmfjkaaGreatDoorW.PrintWords Go.Proofs.YtmjhflmkgmfjkaaGreatDoorW.PrintMore
open PTreeTwins (S58 S106 S35 z58 z106 k58 k106)
theorem quiet_of2 {P : Program} {f : FuncId} {args : Array Value} {w : World} {n1 n : Nat} {v : Value}
    (h : Calls P f args (w.drewN (n1 + n)) fun e w' => e = .returned v ∧ ∃ m, w' = (w.drewN (n1 + n)).drewN m) : Calls P f args (w.drewN (n1 + n)) fun e w'' => e = .returned v ∧ ∃ m, w'' = w.drewN (n1 + m) :=
  h.mono fun _ _ ⟨he, m, hm⟩ => ⟨he, n + m, by rw [hm, World.drewN_drewN, Nat.add_assoc]⟩
theorem RefAt.typ {w : World} {q b : Nat} {r : RS} (h : RefAt w q b r) (hL : 0 < r.L.length) : ∃ cs, w.heap[b]? = some (.cells cs 58 (0, 0)) := by
  obtain ⟨cap, _, h2⟩ := h.row
  obtain ⟨g, _, e, _, _, cells, hc⟩ := Kd.R_form h2 hL
  cases e
  exact ⟨cells, hc⟩
theorem addr_block (a : Addr) (n : Nat) : (a.add n).block = a.block := by unfold Addr.add; split <;> rfl
theorem rMake_snoc (r : RS) (d : List ByteArray) (nm : ByteArray) (dir : Bool) : rMake r (d ++ [nm]) dir =
    (if (walkL r.L d 0).2 ≠ 0 then (r, (walkL r.L d 0).2) else
    if (at_ r.L (walkL r.L d 0).1).f1 = false then (r, 11) else
    if (whose (at_ r.L (walkL r.L d 0).1).f3 nm).isSome then (r, 9) else
    if r.ino = 0 ∨ needS (putS (at_ r.L (walkL r.L d 0).1).f3 nm 1) - needS (at_ r.L (walkL r.L d 0).1).f3 > r.bl then (r, 7) else
    ({ L := setF3 (placeL r.L (freshL r.L) ⟨true, dir, [], []⟩) (walkL r.L d 0).1 (putS (at_ r.L (walkL r.L d 0).1).f3 nm ((freshL r.L : Int) + 1)),
       bl := r.bl - (needS (putS (at_ r.L (walkL r.L d 0).1).f3 nm 1) - needS (at_ r.L (walkL r.L d 0).1).f3), ino := r.ino - 1 }, 0)) := by
  unfold rMake
  rw [if_neg (by simp), List.dropLast_concat, List.getLastD_concat]
theorem C_snoc {w : World} {A : Option Addr} {d : List ByteArray} {nm : ByteArray} (hl : Kd.C Kd.string w A (d.length + 1) (d ++ [nm])) : Kd.C Kd.string w A d.length d ∧ ∃ ad, A = some ad ∧ w.cell? (ad.add d.length) = some (.string nm) := by
  refine ⟨?_, ?_⟩
  · have := Kd.C_take (m := d.length) (by simpa using hl : Kd.C Kd.string w A (d ++ [nm]).length (d ++ [nm])) (by simp)
    simpa using this
  · obtain ⟨ad, e, hc⟩ := Kd.at_string hl (d.length : Int) (by omega) (by omega)
    refine ⟨ad, e, ?_⟩
    rw [Int.toNat_natCast] at hc
    have : rdOf ByteArray.empty (d ++ [nm]) (d.length : Int) = nm := by simp [rdOf]
    rw [this] at hc
    exact hc
set_option maxRecDepth 100000 in
set_option maxHeartbeats 4000000 in
theorem rmake_calls (w : World) (q b : Nat) (r : RS) (h : RefAt w q b r) {way : Nat → List ByteArray} (hG : Good r.L way) {N : Nat} (hL : Lim r N) (A : Option Addr) (c : Nat) (d : List ByteArray) (nm : ByteArray) (hl : Kd.C Kd.string w A (d.length + 1) (d ++ [nm])) (hc : d.length + 1 ≤ c) (hlB : ∀ ad, A = some ad → ∃ cs fr, w.heap[ad.block]? = some (.cells cs 9 fr)) (hnm : nameOk nm = true) (hn0 : nm ≠ ByteArray.empty) (dir : Bool) :
    Calls Tryz.prog 22 #[.pointer (some ⟨q, 0, none⟩), .slice A (d.length + 1) c, .bool dir] w fun e w' => e = .returned (.int .i64 (rMake r (d ++ [nm]) dir).2) ∧ DidR w q b (rMake r (d ++ [nm]) dir).1 w' := by
  rw [rMake_snoc]
  obtain ⟨hdC, ad, rfl, hnmc⟩ := C_snoc hl
  obtain ⟨csA, frA, hadB⟩ := hlB ad rfl
  have hwalk := walk_ref h hG hL (some ad) c d hdC (by omega)
  have hlt := walk_lt hG d
  have hcc : (d.length : Int) + 1 ≤ c := by omega
  have hmxd := Kd.C_max hl
  obtain ⟨a, e, hae⟩ : ∃ a e, walkL r.L d 0 = (a, e) := ⟨_, _, rfl⟩
  simp only [hae] at hwalk hlt ⊢
  have HH := Lib.hid h
  by_cases he : e = 0
  · subst he
    rw [if_neg (by decide)]
    obtain ⟨cap, hbox, hrow⟩ := h.row
    obtain ⟨c0, c1, c2⟩ := hbox.cells
    obtain ⟨v2, v3, e0, e1, e2, e3, hv2, hv3, hfz⟩ := ref_elem hrow a hlt
    obtain ⟨A3, k3, rfl, hk3, hC3⟩ := Kd.R_reads hv3
    have hqlt := hbox.lt
    have hblt := h.row_lt
    have hal : (a : Int) < (r.L.length : Int) := by omega
    have hl3 := hL.slots a
    have hsm := hL.small
    have hat := fun m => rat_calls A3 k3 (at_ r.L a).f3 nm (w.drewN m) (Kd.C_drewN hC3 m) hk3 (by omega)
    have hdl : (d.length : Int) < (d.length : Int) + 1 := by omega
    cases hdir : (at_ r.L a).f1 with
    | false =>
      rw [if_pos rfl]
      rw [hdir] at e1
      clear hae h hl hrow hv2 hv3 hC3 hbox hat
      generalize (at_ r.L a).f3.length = n3 at *
      generalize r.L.length = nL at *
      go_enter Tryz.func22, Tryz.ntmps22
      go_wp2_with (first | (go_at_call 43; refine hwalk.mono ?_; rintro e w1 ⟨rfl, n1, rfl⟩))
      go_ret
      exact ⟨rfl, DidR.none HH.out (pw_below_drewN (Below.refl _ _) _)⟩
    | true =>
      rw [if_neg (by decide)]
      rw [hdir] at e1
      have hws := whose_isSome (at_ r.L a).f3 nm
      rw [hws]
      cases hatS : atS (at_ r.L a).f3 nm with
      | some j =>
        rw [if_pos (show (some j).isSome = true from rfl)]
        simp only [atI_some hatS] at hat
        clear hae h hl hrow hv2 hv3 hC3 hbox
        generalize (at_ r.L a).f3.length = n3 at *
        generalize r.L.length = nL at *
        go_enter Tryz.func22, Tryz.ntmps22
        go_wp2_with (first | (go_at_call 43; refine hwalk.mono ?_; rintro e w1 ⟨rfl, n1, rfl⟩))
        go_quiet ((go_at_call 44; exact quiet_of2 (hat _)))
        go_wp2
        go_ret
        exact ⟨rfl, DidR.none HH.out (pw_below_drewN (pw_below_drewN (Below.refl _ _) _) _)⟩
      | none =>
        rw [if_neg (show ¬ (none : Option Nat).isSome = true by decide)]
        simp only [atI_none hatS] at hat
        obtain ⟨j, hj1, hj2, hj3, hj4⟩ := put_at' (at_ r.L a).f3 nm hn0 hatS
        obtain ⟨xp, hputf⟩ := put_f (at_ r.L a).f3 nm 1 (by omega) hnm hatS (by decide) (by decide) (2 * (at_ r.L a).f3.length + 60) (Nat.le_refl _)
        have hput := fun W (hW : Below w.heap.size w W) => PTreeTwins.mailbagref9_Put.calls (2 * (at_ r.L a).f3.length + 60) A3 k3 (at_ r.L a).f3 nm 1 _ xp 0 W (Kd.C_below hC3 hW) hk3 hputf
        have hpl : (putS (at_ r.L a).f3 nm 1).length ≤ 2001 := by rw [putS_length]; split <;> omega
        generalize hs1 : putS (at_ r.L a).f3 nm 1 = s1 at *
        have Hs1 := Lib.hid hs1
        clear hs1
        have hneed1 := fun W (hW : Below w.heap.size w W) => rneed_calls A3 k3 (at_ r.L a).f3 W (Kd.C_below hC3 hW) hk3 (by omega)
        have hadl := World.block_lt_of_cell? w _ hnmc
        have hcellb : ∀ (p : Addr) (v : Value) (W : World), w.cell? p = some v → Below w.heap.size w W → W.cell? p = some v := fun p v W hp hW => (hW.cell (World.block_lt_of_cell? w p hp)).trans hp
        have HA := Lib.hid hatS
        have hadq : ad.block ≠ q := fun e => by rw [e, show w.heap[q]? = _ from hbox] at hadB; cases hadB
        have hadb : ad.block ≠ b := fun e => by
          obtain ⟨cs, hcs⟩ := h.typ (by omega)
          rw [e, hcs] at hadB; cases hadB
        have HC3 := Lib.hid hC3
        generalize hx2 : needS s1 = x2 at *
        generalize hx1 : needS (at_ r.L a).f3 = x1 at *
        have Hx2 := Lib.hid hx2
        have hbd2 : 0 ≤ x2 ∧ x2 ≤ 16720 := by rw [← hx2]; exact needS_bd s1 (by omega)
        have hbd1 : 0 ≤ x1 ∧ x1 ≤ 16720 := by rw [← hx1]; exact needS_bd _ (by omega)
        obtain ⟨res, hres⟩ : ∃ res, res = (if r.ino = 0 ∨ x2 - x1 > r.bl then (r, 7) else ({ L := setF3 (placeL r.L (freshL r.L) ⟨true, dir, [], []⟩) a (putS (at_ r.L a).f3 nm ((freshL r.L : Int) + 1)), bl := r.bl - (x2 - x1), ino := r.ino - 1 }, 0) : RS × Int) := ⟨_, rfl⟩
        rw [← hres]
        have HRES := Lib.hid hres
        have hbl0 := hL.bl0
        have hbl1 := hL.bl1
        have hino0 := hL.ino0
        have hino1 := hL.ino1
        have hfl := freshL_le r.L
        have hth := hL.things
        clear hae hl hrow hv2 hv3 hbox hws hputf hatS hC3 hx1 hx2 hres
        generalize (at_ r.L a).f3.length = n3 at *
        generalize hnL : r.L.length = nL at *
        have HnL := Lib.hid hnL
        clear hnL
        go_enter Tryz.func22, Tryz.ntmps22
        go_wp2_with (first | (go_at_call 43; refine hwalk.mono ?_; rintro e w1 ⟨rfl, n1, rfl⟩))
        go_quiet ((go_at_call 44; exact quiet_of2 (hat _)))
        go_wp2
        go_region_held3 (fun W' => W'.cell? ⟨q, 0, none⟩ = some (.slice (some ⟨b, 0, none⟩) nL cap) ∧ W'.cell? ⟨b, a * 4 + 3, none⟩ = some (.slice A3 n3 k3) ∧ W'.cell? (ad.add d.length) = some (.string nm))
          (first | go_keep | assumption)
          (first
            | (go_at_call 45; refine (hput _ (by exact pw_below_drewN (Below.refl _ _) _)).mono ?_; rintro e w1 ⟨vS, rfl, hRS, hb1⟩
               obtain ⟨AS, cS, rfl, hcS, _⟩ := Kd.R_reads hRS
               have hB1 : Below w.heap.size w w1 := (pw_below_drewN (Below.refl _ _) _).trans hb1
               have hS1 : w1.cell? ⟨q, 0, none⟩ = some (.slice (some ⟨b, 0, none⟩) nL cap) ∧ w1.cell? ⟨b, a * 4 + 3, none⟩ = some (.slice A3 n3 k3) ∧ w1.cell? (ad.add d.length) = some (.string nm) := ⟨hcellb _ _ _ c0 hB1, hcellb _ _ _ e3 hB1, hcellb _ _ _ hnmc hB1⟩
               have hns := fun m => rneed_calls AS cS s1 (w1.drewN m) (Kd.C_drewN (Kd.R_reads' hRS).2.2 m) hcS (by omega)
               simp only [Hx2.out] at hns
               have hn1 := fun m => hneed1 (w1.drewN m) (pw_below_drewN hB1 m)))
        all_goals
          obtain ⟨z0, z1, z2⟩ := hS1
          have y1 := hcellb _ _ _ c1 hB1
          have y2 := hcellb _ _ _ c2 hB1
          clear hput hneed1 c0 c1 c2 e0 e1 e2 e3 hnmc hcellb hat hwalk
          go_wp2
          go_quiet (first
            | (go_at_call 46; exact Calls.quiet_of (hns _))
            | (go_at_call 46; exact Calls.quiet_of (hn1 _)))
          by_cases hino : r.ino = 0
          · have hr7 : res = (r, 7) := by rw [HRES.out, if_pos (.inl hino)]
            have hd : (r.ino == 0) = true := by simpa using hino
            go_wp2
            go_ret
            exact ⟨by rw [hr7]; rfl, by rw [hr7]; exact DidR.none HH.out (pw_below_drewN hB1 _)⟩
          · by_cases hmo : x2 - x1 > r.bl
            · have hr7 : res = (r, 7) := by rw [HRES.out, if_pos (.inr hmo)]
              have hd : (r.ino == 0) = false := by simpa using hino
              have hdd : decide (r.ino = 0) = false := decide_eq_false hino
              have hd2 : decide (r.bl < x2 - x1) = true := decide_eq_true hmo
              go_wp2
              go_ret
              exact ⟨by rw [hr7]; rfl, by rw [hr7]; exact DidR.none HH.out (pw_below_drewN hB1 _)⟩
            · have hd : (r.ino == 0) = false := by simpa using hino
              have hd2 : decide (r.bl < x2 - x1) = false := decide_eq_false hmo
              have hR1 := HH.out.below (pw_below_drewN hB1 nq)
              have hdd : decide (r.ino = 0) = false := decide_eq_false hino
              have hszN := hB1.size
              obtain ⟨gS, _, eAS, hgS1, hgS2, _⟩ := Kd.R_form hRS (by omega)
              cases eAS
              have hgS0 : w.heap.size ≤ gS := hgS1
              have hlkS : (j : Int) < (s1.length : Int) := by omega
              have hRP : RefP (fun k => k ≠ gS) (w1.drewN nq) q b r := (HH.out.toP (fun k hk => by omega)).below (pw_below_drewN hB1 nq)
              have hfresh := fresh_callsP (fun k => k ≠ gS) (w1.drewN nq) (fun k hk => by have : w1.heap.size ≤ k := hk; omega) q b r hRP (by rw [HnL.out]; omega) dir
              have hnmc1 : (w1.drewN nq).cell? (ad.add d.length) = some (.string nm) := z2
              have hb2B := hB1
              go_wp2_with (first
                | (go_at_call 47; refine hfresh.mono ?_; rintro e w2 ⟨rfl, b2, hR2, hK2, hb2⟩
                   have hb2' : b2 = b ∨ w1.heap.size ≤ b2 := hb2
                   have hgq : gS ≠ q := by omega
                   have hgb : gS ≠ b2 := by rcases hb2' with e | e <;> omega
                   have hS2 : k106.R 106 w2 w.heap.size (fun k => w.heap.size ≤ k ∧ k < w1.heap.size) (.slice (some ⟨gS, 0, none⟩) s1.length cS) s1 :=
                     Kd.R_step (Kd.R_mono (Kd.R_bound hRS) (fun k hk => ⟨hk.2.1, hk.2.2.1⟩)) (fun k hk _ => hK2.block k hk.2 (fun e => by rcases e with e | e <;> omega))
                   have hnm2 : w2.cell? (ad.add d.length) = some (.string nm) := hK2.cell hnmc1 (fun e => by
                     rw [addr_block] at e
                     exact e.elim hadq hadb)
                   obtain ⟨cap2, hq2, hr2⟩ := hR2.toAt.row
                   obtain ⟨t0, t1, t2⟩ := hq2.cells
                   have g1 := hq2.frozen 1
                   have g2 := hq2.frozen 2
                   have hpll := placeL_length r.L (freshL r.L) (⟨true, dir, [], []⟩ : S58)
                   have hal2 : a < (placeL r.L (freshL r.L) (⟨true, dir, [], []⟩ : S58)).length := by have := hpll.1; rw [HnL.out] at this; omega
                   obtain ⟨p2, p3, k0, k1, k2, k3', hp2, hp3, hpz⟩ := ref_elem hr2 a hal2
                   have pz3 := hpz 3
                   have hal2i : (a : Int) < ((placeL r.L (freshL r.L) (⟨true, dir, [], []⟩ : S58)).length : Int) := by omega
                   have hat2 := rat_calls (some ⟨gS, 0, none⟩) cS s1 nm w2 (Kd.R_reads' hS2).2.2 hcS (by omega)
                   rw [atI_some hj1] at hat2
                   obtain ⟨u1, u2, hS3⟩ := slot_set hS2 j hj2 ((freshL r.L : Int) + 1)
                   clear hp2 hp3 hr2 k0 k1 k2)
                | (go_at_call 44; with_reducible refine hat2.mono ?_; rintro e w3 ⟨rfl, n3', rfl⟩))
              go_ret
              have hr0 : res = ({ L := setF3 (placeL r.L (freshL r.L) ⟨true, dir, [], []⟩) a (putS (at_ r.L a).f3 nm ((freshL r.L : Int) + 1)), bl := r.bl - (x2 - x1), ino := r.ino - 1 }, 0) := by rw [HRES.out, if_neg (fun h => h.elim hino (fun h => by omega))]
              rw [hr0]
              refine ⟨rfl, ?_⟩
              have F1 : RefP (fun k => k ≠ gS) (w2.drewN n3') q b2 { r with L := placeL r.L (freshL r.L) ⟨true, dir, [], []⟩ } := hR2.below (pw_below_drewN (Below.refl _ _) n3')
              have F2 := (F1.far (p := ⟨gS, j * 2 + 1, none⟩) (fun h => h rfl) hgq (.int .i64 ((freshL r.L : Int) + 1))).toAt
              have hS4 : k106.R 106 ((w2.drewN n3').setCell ⟨gS, j * 2 + 1, none⟩ (.int .i64 ((freshL r.L : Int) + 1))) w.heap.size (fun k => w.heap.size ≤ k ∧ k < w1.heap.size) (.slice (some ⟨gS, 0, none⟩) s1.length cS) (s1.set j ⟨(s1.getD j z106).f0, (freshL r.L : Int) + 1⟩) := (slot_set (Kd.R_below hS2 (pw_below_drewN (Below.refl _ _) n3')) j hj2 _).2.2
              rw [hj3, ← hj4] at hS4
              have F3 := ((F2.setS a hal2 _ _ (Kd.R_mono (Kd.R_lower hS4 (Nat.zero_le _)) (fun k hk => ⟨trivial, by rcases hb2' with e | e <;> omega⟩))).setBl (r.bl - (x2 - x1))).setIno (r.ino - 1)
              refine ⟨b2, F3, ?_, by rcases hb2' with e | e <;> omega⟩
              have K1 : Keeps (fun k => k = q ∨ k = b) w w2 := (Keeps.of_below (pw_below_drewN hB1 nq) : Keeps (fun k => k = q ∨ k = b) w _).trans hK2
              exact ((((K1.drewN n3').setCell (p := ⟨gS, j * 2 + 1, none⟩) (.inr hgS0) _).setCell (p := ⟨b2, a * 4 + 3, none⟩) (by rcases hb2' with e | e; exact .inl (.inr e); exact .inr (by show w.heap.size ≤ b2; omega)) _).setCell (p := ⟨q, 1, none⟩) (.inl (.inl rfl)) _).setCell (p := ⟨q, 2, none⟩) (.inl (.inl rfl)) _
  · rw [if_pos he]
    have hde : (e != 0) = true := by simpa using he
    clear hae h hl
    go_enter Tryz.func22, Tryz.ntmps22
    go_wp2_with (first | (go_at_call 43; refine hwalk.mono ?_; rintro e w1 ⟨rfl, n1, rfl⟩))
    go_ret
    exact ⟨rfl, DidR.none HH.out (pw_below_drewN (Below.refl _ _) _)⟩
end Go.Proofs.YtmjhflmkgmfjkaaGreatDoor
