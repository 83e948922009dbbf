/- A part of the proof: Y10, Y11. -/
import Derived.Test.YtmjhflmkgmfjkaaGreatDoorYc
import Derived.Deep.RegionWith
set_option linter.unusedVariables false
set_option linter.unusedSimpArgs false
namespace Go.Proofs.YtmjhflmkgmfjkaaGreatDoor
open Go.RowKit Go.Proofs.YtmjhflmkgmfjkaaGreatDoorW.PrintWords Go.Proofs.YtmjhflmkgmfjkaaGreatDoorW.PrintMore
open PTreeTwins (S58 S106 S35 z58 z106 k58 k106)
theorem takes_dir {x : S58} (h : x.f1 = true) : takes x = needS x.f3 := by unfold takes; rw [if_pos h]
theorem takes_file {x : S58} (h : x.f1 = false) : takes x = allB x.f2.length := by unfold takes; rw [if_neg (by rw [h]; decide)]
theorem needS_bd (s : List S106) (h : s.length ≤ 3000) : 0 ≤ needS s ∧ needS s ≤ 16720 := by
  unfold needS
  refine allB_bd _ ?_ ?_ <;> unfold slotsOf <;> omega
theorem DidR.after {w W W' : World} {q b : Nat} {r' : RS} (h : DidR w q b r' W) (hb : Below W.heap.size W W') : DidR w q b r' W' := by
  obtain ⟨b', h1, h2, h3⟩ := h
  exact ⟨b', h1.below hb, h2.trans (Keeps.of_below hb), h3⟩
/-- what is left behind the sum: t.Inodes++, t.L[k] = Thing{} -/
theorem free_end {w W : World} {q b : Nat} {r : RS} {k : Nat} (hk : k < r.L.length) {bl : Int} (R1 : RefAt W q b { r with bl := bl }) (hK : Keeps (fun k => k = q ∨ k = b) w W) (hbl : bl = r.bl + takes (at_ r.L k)) :
    DidR w q b (rFree r k) ((W.setCell ⟨q, 2, none⟩ (.int .i64 (r.ino + 1))).setCells b (k * 4) [.bool false, .bool false, .slice none 0 0, .slice none 0 0]) := by
  have R2 := R1.setIno (r.ino + 1)
  have R3 := R2.setT k hk z58 (kB_nil _ _) (k106_nil _ _)
  subst hbl
  exact ⟨b, R3.1, hK.then_ (S2 := fun k => k = q ∨ k = b) ((((Keeps.refl (fun k => k = q ∨ k = b) W).setCell (p := ⟨q, 2, none⟩) (.inl (.inl rfl)) _)).then_ (R3.2.mono (S' := fun k => k = q ∨ k = b) (fun k hk => .inr hk)) (fun k hk => .inl hk)) (fun k hk => .inl hk), .inl rfl⟩
set_option maxRecDepth 100000 in
set_option maxHeartbeats 4000000 in
theorem free51_calls (w : World) (q b : Nat) (r : RS) (h : RefAt w q b r) {N : Nat} (hL : Lim r N) (k : Nat) (hk : k < r.L.length) :
    Calls Tryz.prog 51 #[.pointer (some ⟨q, 0, none⟩), .int .i64 k] w fun e w' => e = .returned (.tuple #[]) ∧ DidR w q b (rFree r k) w' := by
  obtain ⟨cap, hbox, hrow⟩ := h.row
  obtain ⟨c0, c1, c2⟩ := hbox.cells
  have fr1 := hbox.frozen 1
  have fr2 := hbox.frozen 2
  obtain ⟨v2, v3, e0, e1, e2, e3, hv2, hv3, hfz⟩ := ref_elem hrow k hk
  obtain ⟨A2, k2, rfl, hk2, hC2⟩ := Kd.R_reads hv2
  obtain ⟨A3, k3, rfl, hk3, hC3⟩ := Kd.R_reads hv3
  have f0 : w.frozen? ⟨b, k * 4, none⟩ = false := hfz 0
  have f1 := hfz 1
  have f2 := hfz 2
  have f3 := hfz 3
  have hbq : b ≠ q := fun e => h.ne (fun e0 => by rw [e0] at hk; simp at hk) e.symm
  have hl2 := hL.data k
  have hl3 := hL.slots k
  have hbl0 := hL.bl0
  have hbl1 := hL.bl1
  have hino0 := hL.ino0
  have hino1 := hL.ino1
  have hsm := hL.small
  have hqlt := hbox.lt
  have hblt := h.row_lt
  have hkl : (k : Int) < (r.L.length : Int) := by omega
  have hbd := needS_bd (at_ r.L k).f3 (by omega)
  have hbd2 : 0 ≤ allB ((at_ r.L k).f2.length) ∧ allB ((at_ r.L k).f2.length) ≤ 16720 := allB_bd _ (by omega) (by omega)
  have hneed := fun W (hW : Below w.heap.size w W) => rneed_calls A3 k3 (at_ r.L k).f3 W (Kd.C_below hC3 hW) hk3 (by omega)
  have hall := fun W => rall_calls ((at_ r.L k).f2.length) W (by omega) (by omega)
  have HH := Lib.hid h
  cases hd : (at_ r.L k).f1 with
  | true =>
    have ht := takes_dir hd
    rw [hd] at e1
    have HT := Lib.hid ht
    clear h hrow hv2 hv3 hC2 hC3 hbox hall ht hd
    generalize (at_ r.L k).f2.length = n2 at *
    generalize (at_ r.L k).f3.length = n3 at *
    generalize hnL : r.L.length = nL at *
    have HnL := Lib.hid hnL
    generalize needS (at_ r.L k).f3 = x1 at *
    clear hnL
    go_enter Tryz.func51, Tryz.ntmps51
    go_wp2
    go_region_with (first | (go_at_call 46; refine (hneed _ (by exact ((Below.refl _ w).alloc (Nat.le_refl _) _).drew)).mono ?_; rintro e w1 ⟨rfl, nq, rfl⟩))
    all_goals
      go_wp2
      go_end0
      refine ⟨rfl, free_end (by rw [HnL.out]; exact hk) ((HH.out.below (pw_below_drewN ((Below.refl _ w).alloc (Nat.le_refl _) _) _)).setBl _) (((Keeps.of_below (pw_below_drewN ((Below.refl _ w).alloc (Nat.le_refl _) _) _) : Keeps (fun k => k = q ∨ k = b) w _)).setCell (p := ⟨q, 1, none⟩) (.inl (.inl rfl)) _) ?_⟩
      rw [HT.out]
  | false =>
    have ht := takes_file hd
    rw [hd] at e1
    have HT := Lib.hid ht
    clear h hrow hv2 hv3 hC2 hC3 hbox hneed ht hd
    generalize (at_ r.L k).f2.length = n2 at *
    generalize (at_ r.L k).f3.length = n3 at *
    generalize hnL : r.L.length = nL at *
    have HnL := Lib.hid hnL
    generalize allB (n2 : Int) = x1 at *
    clear hnL
    go_enter Tryz.func51, Tryz.ntmps51
    go_wp2
    go_region_with (first | (go_at_call 48; refine (hall _).mono ?_; rintro e w1 ⟨rfl, rfl⟩))
    all_goals
      go_wp2
      go_end0
      refine ⟨rfl, DidR.after (free_end (w := w) (W := w.setCell ⟨q, 1, none⟩ (.int .i64 (r.bl + x1))) (by rw [HnL.out]; exact hk) (HH.out.setBl _) ((Keeps.refl (fun k => k = q ∨ k = b) w).setCell (p := ⟨q, 1, none⟩) (.inl (.inl rfl)) _) (by rw [HT.out])) ((Below.refl _ _).alloc (Nat.le_refl _) _).drew⟩
end Go.Proofs.YtmjhflmkgmfjkaaGreatDoor
namespace Go.Proofs.YtmjhflmkgmfjkaaGreatDoor
open Go.RowKit Go.Proofs.YtmjhflmkgmfjkaaGreatDoorW.PrintWords Go.Proofs.YtmjhflmkgmfjkaaGreatDoorW.PrintMore
open PTreeTwins (S58 S106 S35 z58 z106 k58 k106)
theorem walk_ref {w : World} {q b : Nat} {r : RS} (h : RefAt w q b r) {way : Nat → List ByteArray} (hG : Good r.L way) {N : Nat} (hL : Lim r N) (A : Option Addr) (c : Nat) (l : List ByteArray) (hl : Kd.C Kd.string w A l.length l) (hc : l.length ≤ c) :
    Calls Tryz.prog 43 #[.pointer (some ⟨q, 0, none⟩), .slice A l.length c] w fun e w' => e = .returned (.tuple #[.int .i64 (walkL r.L l 0).1, .int .i64 (walkL r.L l 0).2]) ∧ ∃ n, w' = w.drewN n := by
  obtain ⟨cap, hbox, hrow⟩ := h.row
  obtain ⟨_, hcap, hC⟩ := Kd.R_reads' hrow
  exact rwalk_calls w q (some ⟨b, 0, none⟩) cap r.bl r.ino r.L way N hL.small hG hL.slots hbox hC hcap A c l hl hc
theorem walk_lt {L : List S58} {way : Nat → List ByteArray} (hG : Good L way) (l : List ByteArray) : (walkL L l 0).1 < L.length := by
  by_cases h : (walkL L l 0).2 = 0
  · exact live_lt (walk_way hG h).1
  · have hz : ∀ (l : List ByteArray) (i : Nat), (walkL L l i).2 ≠ 0 → (walkL L l i).1 = 0 := by
      intro l
      induction l with
      | nil => intro i hi; exact absurd rfl hi
      | cons n l ih =>
        intro i hi
        unfold walkL at hi ⊢
        by_cases h1 : (at_ L i).f1 = true
        · rw [if_pos h1] at hi ⊢
          cases hw : whose (at_ L i).f3 n with
          | none => rfl
          | some j => rw [hw] at hi; exact ih j hi
        · rw [if_neg h1]
    rw [hz l 0 h]
    exact live_lt hG.root.1
set_option maxRecDepth 100000 in
set_option maxHeartbeats 4000000 in
theorem data_append (w : World) (q b : Nat) (r : RS) (h : RefAt w q b r) {way : Nat → List ByteArray} (hG : Good r.L way) {N : Nat} (hL : Lim r N) (p p2 : ByteArray) (Ad : Option Addr) (cd : Nat) (d : List Int) (n : Int) (hd : kB.C w Ad d.length d) (hcd : d.length ≤ cd) (hdl : d.length ≤ 10000000)
    (A : Option Addr) (c : Nat) (l : List ByteArray) (hl : Kd.C Kd.string w A l.length l) (hc : l.length ≤ c) :
    Calls Tryz.prog 23 #[.pointer (some ⟨q, 0, none⟩), opVal 3 p p2 Ad d.length cd n, .slice A l.length c] w fun e w' => e = .returned (.int .i64 (rAppend r l d).2) ∧ DidR w q b (rAppend r l d).1 w' := by
  have hwalk := fun W (hW : Below w.heap.size w W) => walk_ref (h.below hW) hG hL A c l (Kd.C_below hl hW) hc
  have hmore := fun W (hW : Below w.heap.size w W) (i : Nat) (hi : i < r.L.length) => more_calls W q b r (h.below hW) hL i hi Ad cd d (Kd.C_below hd hW) hcd hdl
  have hlt := walk_lt hG l
  have hW0 := (Below.refl w.heap.size w).alloc (Nat.le_refl _) (.cells #[.int .i64 3, .string p, .string p2, .slice Ad d.length cd, .int .i64 n] 37)
  have hW0' : ∀ m, Below w.heap.size w ((w.alloc (.cells #[.int .i64 3, .string p, .string p2, .slice Ad d.length cd, .int .i64 n] 37)).drewN m) := fun m => pw_below_drewN hW0 m
  obtain ⟨a, e, hae⟩ : ∃ a e, walkL r.L l 0 = (a, e) := ⟨_, _, rfl⟩
  simp only [hae] at hwalk hlt
  have HH := Lib.hid h
  by_cases he : e = 0
  · subst he
    obtain ⟨cap, hbox, hrow⟩ := h.row
    obtain ⟨c0, c1, c2⟩ := hbox.cells
    obtain ⟨v2, v3, e0, e1, e2, e3, hv2, hv3, hfz⟩ := ref_elem hrow a hlt
    obtain ⟨A2, k2, rfl, hk2, hC2⟩ := Kd.R_reads hv2
    obtain ⟨A3, k3, rfl, hk3, hC3⟩ := Kd.R_reads hv3
    have hqlt := hbox.lt
    have hblt := h.row_lt
    have hal : (a : Int) < (r.L.length : Int) := by omega
    have hm := fun W (hW : Below w.heap.size w W) => hmore W hW a hlt
    cases hdir : (at_ r.L a).f1 with
    | true =>
      have hres : rAppend r l d = (r, 10) := by unfold rAppend; rw [hae]; simp only; rw [if_neg (by decide), if_pos hdir]
      rw [hres]
      rw [hdir] at e1
      clear hres hae h hl hd hm hmore hrow hv2 hv3 hC2 hC3 hbox
      generalize (at_ r.L a).f2.length = n2 at *
      generalize (at_ r.L a).f3.length = n3 at *
      generalize r.L.length = nL at *
      unfold opVal
      go_enter Tryz.func23, Tryz.ntmps23
      go_wp2_with (first | (go_at_call 43; refine (hwalk _ (by exact hW0)).mono ?_; rintro e w1 ⟨rfl, n1, rfl⟩))
      go_ret
      exact ⟨rfl, DidR.none HH.out ((hW0' _).alloc (hW0' _).size _)⟩
    | false =>
      have hres : rAppend r l d = rMore r a d := by unfold rAppend; rw [hae]; simp only; rw [if_neg (by decide), if_neg (by rw [hdir]; decide)]
      rw [hres]
      rw [hdir] at e1
      clear hres hae h hl hd hmore hrow hv2 hv3 hC2 hC3 hbox
      generalize (at_ r.L a).f2.length = n2 at *
      generalize (at_ r.L a).f3.length = n3 at *
      generalize r.L.length = nL at *
      unfold opVal
      go_enter Tryz.func23, Tryz.ntmps23
      go_wp2_with (first
        | (go_at_call 43; refine (hwalk _ (by exact hW0)).mono ?_; rintro e w1 ⟨rfl, n1, rfl⟩)
        | (go_at_call 49; refine (hm _ (by exact (hW0' _).alloc (hW0' _).size _)).mono ?_; rintro e w2 ⟨rfl, hdid⟩))
      go_ret
      exact ⟨rfl, DidR.trans (Keeps.of_below ((hW0' _).alloc (hW0' _).size _)) (.inl rfl) hdid⟩
  · have hres : rAppend r l d = (r, e) := by unfold rAppend; rw [hae]; simp only; rw [if_pos he]
    rw [hres]
    have hde : (e != 0) = true := by simpa using he
    clear hres hae h hl hd
    unfold opVal
    go_enter Tryz.func23, Tryz.ntmps23
    go_wp2_with (first | (go_at_call 43; refine (hwalk _ (by exact hW0)).mono ?_; rintro e w1 ⟨rfl, n1, rfl⟩))
    go_ret
    exact ⟨rfl, DidR.none HH.out (hW0' _)⟩
end Go.Proofs.YtmjhflmkgmfjkaaGreatDoor
