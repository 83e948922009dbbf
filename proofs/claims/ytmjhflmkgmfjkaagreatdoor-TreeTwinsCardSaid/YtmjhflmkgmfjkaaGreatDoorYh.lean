/- A part of the proof: Y18. -/
import Derived.Test.YtmjhflmkgmfjkaaGreatDoorYg
import Derived.IntWalk
set_option linter.unusedVariables false
set_option linter.unusedSimpArgs false
namespace Go.Proofs.YtmjhflmkgmfjkaaGreatDoor
open Go.RowKit Go.Proofs.YtmjhflmkgmfjkaaGreatDoorW.PrintWords Go.Proofs.YtmjhflmkgmfjkaaGreatDoorW.PrintMore
open PTreeTwins (S58 S106 S35 z58 z106 k58 k106)
theorem R_empty0 {α : Type} (W : World) (e : Nat) (d : Kd α) : d.R e (W.alloc (.cells #[] e)) W.heap.size (fun _ => True) (.slice (some ⟨W.heap.size, 0, none⟩) 0 0) [] :=
  ⟨fun _ _ => trivial, [], ⟨by simp, .inr ⟨W.heap.size, 0, #[], rfl, Nat.le_refl _, heap_alloc_new W _, Nat.le_refl _, Nat.zero_le _, by simp, by simp⟩⟩, Reps.none _ _⟩
/-- what the loop over two ways' names has found after j names -/
def belowB (l m : List ByteArray) (j : Nat) : Bool := decide (l.length < m.length) && decide (l.take j = m.take j)
def sameB (l m : List ByteArray) (j : Nat) : Bool := decide (l.length = m.length) && decide (l.take j = m.take j)
theorem takeB_step {l m : List ByteArray} {j : Nat} (h1 : j < l.length) (h2 : j < m.length) : decide (l.take (j + 1) = m.take (j + 1)) = (decide (l.take j = m.take j) && decide (l[j] = m[j])) := by
  rw [List.take_succ_eq_append_getElem h1, List.take_succ_eq_append_getElem h2, ← Bool.decide_and]
  exact decide_eq_decide.2 ⟨fun h => by
    have := List.append_inj h (by simp; omega)
    exact ⟨this.1, by simpa using this.2⟩, fun ⟨a, b⟩ => by rw [a, b]⟩
theorem belowB_step {l m : List ByteArray} {j : Nat} (h1 : j < l.length) (h2 : j < m.length) : belowB l m (j + 1) = (belowB l m j && decide (l[j] = m[j])) := by unfold belowB; rw [takeB_step h1 h2, Bool.and_assoc]
theorem sameB_step {l m : List ByteArray} {j : Nat} (h1 : j < l.length) (h2 : j < m.length) : sameB l m (j + 1) = (sameB l m j && decide (l[j] = m[j])) := by unfold sameB; rw [takeB_step h1 h2, Bool.and_assoc]
theorem belowB_end {l m : List ByteArray} {j : Nat} (h1 : j ≤ l.length) (h2 : j ≤ m.length) (h : j = l.length ∨ j = m.length) : belowB l m j = decide (l.length < m.length ∧ l <+: m) := by
  unfold belowB
  rw [← Bool.decide_and]
  refine decide_eq_decide.2 ⟨fun ⟨a, e⟩ => ⟨a, ?_⟩, fun ⟨a, e⟩ => ⟨a, ?_⟩⟩
  · have hj : j = l.length := by omega
    rw [hj, List.take_length] at e
    rw [e]; exact List.take_prefix _ _
  · have hj : j = l.length := by omega
    rw [hj, List.take_length]
    exact List.prefix_iff_eq_take.1 e
theorem sameB_end {l m : List ByteArray} {j : Nat} (h1 : j ≤ l.length) (h2 : j ≤ m.length) (h : j = l.length ∨ j = m.length) : sameB l m j = decide (l = m) := by
  unfold sameB
  rw [← Bool.decide_and]
  refine decide_eq_decide.2 ⟨fun ⟨a, e⟩ => ?_, fun e => by rw [e]; exact ⟨rfl, rfl⟩⟩
  rwa [List.take_of_length_le (by omega), List.take_of_length_le (by omega)] at e
/-- the tree when one's name in td is put into another's place -/
def overRS (r : RS) (td k x : Nat) (n2 : ByteArray) : RS := { rFree r x with L := setF3 (rFree r x).L td (swapS (at_ (rFree r x).L td).f3 n2 ((k : Int) + 1)) }
/-- the tree when one's name is put into td -/
def putRS (r : RS) (td k : Nat) (n2 : ByteArray) : RS := { r with L := setF3 r.L td (putS (at_ r.L td).f3 n2 ((k : Int) + 1)), bl := r.bl - (needS (putS (at_ r.L td).f3 n2 ((k : Int) + 1)) - needS (at_ r.L td).f3) }
/-- the tree when a name is taken from s -/
def tookRS (r : RS) (s : Nat) (n1 : ByteArray) : RS := { r with L := setF3 r.L s (takeS (at_ r.L s).f3 n1) }
theorem rRename_ok {r : RS} {d1 d2 : List ByteArray} {n1 n2 : ByteArray} {k td s : Nat} (hke : walkL r.L (d1 ++ [n1]) 0 = (k, 0)) (hke2 : walkL r.L d2 0 = (td, 0)) (hdir : (at_ r.L td).f1 = true) (hke3 : walkL r.L d1 0 = (s, 0)) :
    rRename r (d1 ++ [n1]) (d2 ++ [n2]) =
      if (d1 ++ [n1]).length < (d2 ++ [n2]).length ∧ (d1 ++ [n1]) <+: (d2 ++ [n2]) then (r, 13) else
      if d1 ++ [n1] = d2 ++ [n2] then (r, 0) else
      match whose (at_ r.L td).f3 n2 with
      | some x => if rOver r.L k x ≠ 0 then (r, rOver r.L k x) else (tookRS (overRS r td k x n2) s n1, 0)
      | none => if s = td then ({ r with L := setF3 r.L td (moveS (at_ r.L td).f3 n1 n2) }, 0) else
        if needS (putS (at_ r.L td).f3 n2 ((k : Int) + 1)) - needS (at_ r.L td).f3 > r.bl then (r, 7) else (tookRS (putRS r td k n2) s n1, 0) := by
  unfold rRename
  rw [hke, List.dropLast_concat, List.dropLast_concat, List.getLastD_concat, List.getLastD_concat, hke2, hke3]
  simp only
  rw [if_neg (by decide), if_neg (by simp), if_neg (by decide), if_neg (by rw [hdir]; decide)]
  rfl
set_option maxRecDepth 100000 in
set_option maxHeartbeats 4000000 in
theorem rrename_ok (w : World) (q b : Nat) (r : RS) (h : RefAt w q b r) {way : Nat → List ByteArray} (hG : Good r.L way) {N : Nat} (hL : Lim r N) (A B : Option Addr) (cA cB : Nat) (d1 d2 : List ByteArray) (n1 n2 : ByteArray) (hl : Kd.C Kd.string w A (d1.length + 1) (d1 ++ [n1])) (hcA : d1.length + 1 ≤ cA) (hm : Kd.C Kd.string w B (d2.length + 1) (d2 ++ [n2])) (hcB : d2.length + 1 ≤ cB)
    (hlB : ∀ ad, A = some ad → ∃ cs fr, w.heap[ad.block]? = some (.cells cs 9 fr)) (hmB : ∀ ad, B = some ad → ∃ cs fr, w.heap[ad.block]? = some (.cells cs 9 fr)) (hok2 : nameOk n2 = true) (hn2 : n2 ≠ ByteArray.empty)
    (k : Nat) (hke : walkL r.L (d1 ++ [n1]) 0 = (k, 0)) (td : Nat) (hke2 : walkL r.L d2 0 = (td, 0)) (hdir : (at_ r.L td).f1 = true) (s : Nat) (hke3 : walkL r.L d1 0 = (s, 0)) :
    Calls Tryz.prog 25 #[.pointer (some ⟨q, 0, none⟩), .slice A (d1.length + 1) cA, .slice B (d2.length + 1) cB] w fun e w' => e = .returned (.int .i64 (rRename r (d1 ++ [n1]) (d2 ++ [n2])).2) ∧ DidR w q b (rRename r (d1 ++ [n1]) (d2 ++ [n2])).1 w' := by
  obtain ⟨hd1C, ad, rfl, hn1c⟩ := C_snoc hl
  obtain ⟨hd2C, bd, rfl, hn2c⟩ := C_snoc hm
  obtain ⟨csA, frA, hadB⟩ := hlB ad rfl
  obtain ⟨csB, frB, hbdB⟩ := hmB bd rfl
  have hwalk1 := walk_ref h hG hL (some ad) cA (d1 ++ [n1]) (by simpa using hl) (by simpa using hcA)
  rw [hke] at hwalk1
  simp only [List.length_append, List.length_singleton] at hwalk1
  have hwalk2 := fun W (hW : Below w.heap.size w W) => walk_ref (h.below hW) hG hL (some bd) cB d2 (Kd.C_below hd2C hW) (by omega)
  rw [hke2] at hwalk2
  have hwalk3 := fun W (hW : Below w.heap.size w W) => walk_ref (h.below hW) hG hL (some ad) cA d1 (Kd.C_below hd1C hW) (by omega)
  rw [hke3] at hwalk3
  simp only at hwalk2 hwalk3
  have htd := walk_lt hG d2
  rw [hke2] at htd
  have hs := walk_lt hG d1
  rw [hke3] at hs
  have hk := walk_lt hG (d1 ++ [n1])
  rw [hke] at hk
  simp only at htd hs hk
  have HH := Lib.hid h
  obtain ⟨cap, hbox, hrow⟩ := h.row
  obtain ⟨c0, c1, c2⟩ := hbox.cells
  obtain ⟨v2, v3, e0, e1, e2, e3, hv2, hv3, hfz⟩ := ref_elem hrow td htd
  obtain ⟨A3, k3, rfl, hk3, hC3⟩ := Kd.R_reads hv3
  have hqlt := hbox.lt
  have hblt := h.row_lt
  have htdi : (td : Int) < (r.L.length : Int) := by omega
  have hsi : (s : Int) < (r.L.length : Int) := by omega
  have hki : (k : Int) < (r.L.length : Int) := by omega
  have hl3 := hL.slots td
  have hsm := hL.small
  have hth := hL.things
  have hmx1 := Kd.C_max hl
  have hmx2 := Kd.C_max hm
  rw [hdir] at e1
  have hat := fun m => rat_calls A3 k3 (at_ r.L td).f3 n2 (w.drewN m) (Kd.C_drewN hC3 m) hk3 (by omega)
  have h01 : ((d1.length : Int) + 1 == 0) = false := beq_eq_false_iff_ne.2 (by omega)
  have h01' : ¬ (d1.length : Int) + 1 = 0 := by omega
  have h02 : ((d2.length : Int) + 1 == 0) = false := beq_eq_false_iff_ne.2 (by omega)
  have h02' : ¬ (d2.length : Int) + 1 = 0 := by omega
  have hcc1 : (d1.length : Int) + 1 ≤ cA := by omega
  have hcc2 : (d2.length : Int) + 1 ≤ cB := by omega
  have hl1 : (d1 ++ [n1]).length = d1.length + 1 := by simp
  have hl2 : (d2 ++ [n2]).length = d2.length + 1 := by simp
  obtain ⟨l, hl_⟩ : ∃ l, l = d1 ++ [n1] := ⟨_, rfl⟩
  obtain ⟨m, hm_⟩ : ∃ m, m = d2 ++ [n2] := ⟨_, rfl⟩
  rw [← hl_] at hl hl1
  rw [← hm_] at hm hl2
  rw [← hl_, ← hm_]
  have HL_ := Lib.hid hl_
  have HM_ := Lib.hid hm_
  have hb14 : decide ((d1.length : Int) + 1 < (d2.length : Int) + 1) = belowB l m 0 := by unfold belowB; rw [hl1, hl2]; simp
  have hb14' : decide (d1.length < d2.length) = belowB l m 0 := by unfold belowB; rw [hl1, hl2]; simp
  have hb15 : ((d2.length : Int) + 1 == (d1.length : Int) + 1) = sameB l m 0 := by unfold sameB; rw [hl1, hl2, Bool.eq_iff_iff]; simp; omega
  have hb15' : decide ((d2.length : Int) + 1 = (d1.length : Int) + 1) = sameB l m 0 := by unfold sameB; rw [hl1, hl2, Bool.eq_iff_iff]; simp; omega
  clear hl_ hm_ h hlB hmB hv2 hv3
  generalize hnL : r.L.length = nL at *
  have HnL := Lib.hid hnL
  clear hnL
  generalize hN1 : d1.length = N1 at *
  generalize hN2 : d2.length = N2 at *
  go_enter Tryz.func25, Tryz.ntmps25
  go_wp2_with (first
    | (go_at_call 43; with_reducible refine hwalk1.mono ?_; rintro e w1 ⟨rfl, m1, rfl⟩)
    | (go_at_call 43; with_reducible refine (hwalk2 _ (by exact pw_below_drewN (Below.refl _ _) _)).mono ?_; rintro e w1 ⟨rfl, m2, rfl⟩)
    | (go_at_call 43; refine (hwalk3 _ (by exact pw_below_drewN (Below.refl _ _) _)).mono ?_; rintro e w1 ⟨rfl, m2, rfl⟩))
  have HC := Lib.hid (And.intro c0 (And.intro c1 (And.intro c2 (And.intro e1 e3))))
  clear c0 c1 c2 e0 e1 e2 e3
  go_loopw [14, 15, 16] (fun x y i wr => ∃ j, j ≤ l.length ∧ j ≤ m.length ∧ i = .int .i64 j ∧ x = .bool (belowB l m j) ∧ y = .bool (sameB l m j) ∧ ∃ n, wr = w.drewN n) (fun _ _ i _ => l.length - (intOf i).toNat)
  case atStart => exact ⟨0, Nat.zero_le _, Nat.zero_le _, rfl, by first | rw [← hb14] | rw [← hb14'], by first | rw [← hb15] | rw [← hb15'], _, rfl⟩
  case round =>
    obtain ⟨j, hj1, hj2, rfl, rfl, rfl, n, hn⟩ := hrel
    by_cases hlt : j < l.length ∧ j < m.length
    · obtain ⟨z1, z2⟩ := hlt
      have st1 := belowB_step z1 z2
      have st2 := sameB_step z1 z2
      have g1 : wr.cell? (ad.add j) = some (.string l[j]) := by
        obtain ⟨_, e, hcell⟩ := Kd.at_string hl (j : Int) (by omega) (by omega)
        cases e
        rw [hn]
        have hrd : rdOf ByteArray.empty l (j : Int) = l[j] := by simp [rdOf, z1]
        rw [hrd, Int.toNat_natCast] at hcell
        exact hcell
      have g2 : wr.cell? (bd.add j) = some (.string m[j]) := by
        obtain ⟨_, e, hcell⟩ := Kd.at_string hm (j : Int) (by omega) (by omega)
        cases e
        rw [hn]
        have hrd : rdOf ByteArray.empty m (j : Int) = m[j] := by simp [rdOf, z2]
        rw [hrd, Int.toNat_natCast] at hcell
        exact hcell
      have HN := Lib.hid hn
      clear hn hl hm hwalk1 hwalk2 hwalk3 hat hn1c hn2c
      generalize l[j] = x1 at *
      generalize m[j] = x2 at *
      by_cases hx : x1 = x2
      · subst hx
        simp only [decide_true, Bool.and_true] at st1 st2
        go_wp2
        go_quiet (fail)
        go_wp2
        go_roundw
        case measure => show l.length - (((j : Int) + 1).toNat) < l.length - ((j : Int).toNat); omega
        exact ⟨j + 1, by omega, by omega, by rw [Int.natCast_add]; rfl, by rw [st1], by rw [st2], by rw [HN.out]; exact ((Drawn0.mk ⟨n, rfl⟩).step _).out⟩
      · have hxe : (x1.toList == x2.toList) = false := by
          rw [beq_eq_false_iff_ne]
          exact fun e => hx (by
            rw [ByteArray.toList_eq, ByteArray.toList_eq] at e
            exact ByteArray.ext (Array.toList_inj.1 e))
        simp only [decide_eq_false hx, Bool.and_false] at st1 st2
        go_wp2
        go_quiet (fail)
        go_wp2
        go_roundw
        case measure => show l.length - (((j : Int) + 1).toNat) < l.length - ((j : Int).toNat); omega
        exact ⟨j + 1, by omega, by omega, by rw [Int.natCast_add]; rfl, by rw [st1], by rw [st2], by rw [HN.out]; exact ((Drawn0.mk ⟨n, rfl⟩).step _).out⟩
    · have hje : j = l.length ∨ j = m.length := by omega
      rw [belowB_end hj1 hj2 hje, sameB_end hj1 hj2 hje]
      subst hn
      obtain ⟨c0, c1, c2, e1, e3⟩ := HC.out
      have hres := rRename_ok (n2 := n2) hke hke2 hdir hke3
      rw [← HL_.out, ← HM_.out] at hres
      by_cases hbel : l.length < m.length ∧ l <+: m
      · rw [decide_eq_true hbel]
        rw [if_pos hbel] at hres
        have HRES := Lib.hid hres
        have hj : ¬ (j : Int) < (N1 : Int) + 1 := by omega
        clear hl hm hwalk1 hwalk2 hwalk3 hat hn1c hn2c hres
        go_wp2
        go_ret
        rw [HRES.out]
        exact ⟨rfl, DidR.none HH.out (pw_below_drewN (Below.refl _ _) _)⟩
      · rw [decide_eq_false hbel]
        rw [if_neg hbel] at hres
        by_cases hsm : l = m
        · rw [decide_eq_true hsm]
          rw [if_pos hsm] at hres
          have HRES := Lib.hid hres
          have hj : ¬ (j : Int) < (N1 : Int) + 1 := by have := congrArg List.length hsm; omega
          clear hl hm hwalk1 hwalk2 hwalk3 hat hn1c hn2c hres hsm
          go_wp2
          go_ret
          rw [HRES.out]
          exact ⟨rfl, DidR.none HH.out (pw_below_drewN (Below.refl _ _) _)⟩
        · rw [decide_eq_false hsm]
          rw [if_neg hsm] at hres
          have hlive1 := (walk_way hG (l := d2) (by rw [hke2])).1
          rw [hke2] at hlive1
          have hlive2 := (walk_way hG (l := d1) (by rw [hke3])).1
          rw [hke3] at hlive2
          have hpar := walk_parent hke
          rw [hke3] at hpar
          simp only at hlive1 hlive2 hpar
          obtain ⟨_, _, hp1⟩ := hpar
          have hnn1 : n1 ≠ ByteArray.empty := by
            rintro rfl
            obtain ⟨e, he, he1, _⟩ := whose_mem hp1
            exact (named_mem.1 he).2 he1
          obtain ⟨j1, hj1l, hat1, -⟩ := whose_atS hp1 hnn1
          have hadl := World.block_lt_of_cell? w _ hn1c
          have hbdl := World.block_lt_of_cell? w _ hn2c
          have hadq : ad.block ≠ q := fun e => by rw [e, show w.heap[q]? = _ from hbox] at hadB; cases hadB
          have hadb : ad.block ≠ b := fun e => by
            obtain ⟨cs, hcs⟩ := HH.out.typ (by rw [HnL.out]; omega)
            rw [e, hcs] at hadB; cases hadB
          have hbdq : bd.block ≠ q := fun e => by rw [e, show w.heap[q]? = _ from hbox] at hbdB; cases hbdB
          have hbdb : bd.block ≠ b := fun e => by
            obtain ⟨cs, hcs⟩ := HH.out.typ (by rw [HnL.out]; omega)
            rw [e, hcs] at hbdB; cases hbdB
          have hcellb : ∀ (p : Addr) (v : Value) (W : World), w.cell? p = some v → Below w.heap.size w W → W.cell? p = some v := fun p v W hp hW => (hW.cell (World.block_lt_of_cell? w p hp)).trans hp
          have hfr3 := hfz 3
          have hfq1 := hbox.frozen 1
          have HC3 := Lib.hid hC3
          have hjd : ¬ ((j : Int) < (N1 : Int) + 1 ∧ (j : Int) < (N2 : Int) + 1) := by omega
          have hNN1 : (N1 : Int) < (N1 : Int) + 1 := by omega
          have hNN2 : (N2 : Int) < (N2 : Int) + 1 := by omega
          have hwas := whose_isSome (at_ r.L td).f3 n2
          cases hw : whose (at_ r.L td).f3 n2 with
          | some x =>
            rw [hw] at hres
            simp only at hres
            obtain ⟨hxl, _, hxtd, hx0⟩ := kid_ne hG hlive1 hw
            have hxlt := live_lt hxl
            obtain ⟨jj, hjjl, hatx, -⟩ := whose_atS hw hn2
            simp only [atI_some hatx] at hat
            obtain ⟨ad3, hA3, -, sl1⟩ := PTreeTwins.at_T106 hC3 (jj : Int) (by omega) (by omega)
            rw [rd106 _ jj hjjl, Int.toNat_natCast] at sl1
            subst hA3
            have hwh := whose_at (at_ r.L td).f3 n2
            rw [hatx, hw] at hwh
            have hgd : (at_ r.L td).f3.getD jj z106 = ((at_ r.L td).f3)[jj] := by rw [List.getD_eq_getElem?_getD, List.getElem?_eq_getElem hjjl]; rfl
            simp only [Option.map_some, hgd, Option.some.injEq] at hwh
            obtain ⟨_, hjn, hne⟩ := atS_some hatx
            have hmem : ((at_ r.L td).f3)[jj] ∈ named (at_ r.L td).f3 := named_mem.2 ⟨List.getElem_mem hjjl, by rw [hjn]; exact hne⟩
            have hx1 : (((at_ r.L td).f3)[jj]).f1 = (x : Int) + 1 := by
              have := (hG.kid td hlive1 _ hmem).1
              rw [hwh]; unfold eix; omega
            rw [hx1] at sl1
            have hover := fun W (hW : Below w.heap.size w W) => over_calls W q b r (HH.out.below hW) hL k x (by rw [HnL.out]; exact hk) hxlt
            have hxi : (x : Int) < (nL : Int) := by rw [← HnL.out]; exact_mod_cast hxlt
            by_cases hov : rOver r.L k x = 0
            · rw [if_neg (by simpa using hov)] at hres
              have hfree := fun W (hW : Below w.heap.size w W) => free51_calls W q b r (HH.out.below hW) hL x hxlt
              have hp2 := (walk_parent hke).2.1
              rw [hke3] at hp2
              simp only at hp2
              have hxs : x ≠ s := by
                rintro rfl
                obtain ⟨e', he', _⟩ := whose_mem hp1
                have hne' : named (at_ r.L x).f3 ≠ [] := List.ne_nil_of_mem he'
                revert hov
                unfold rOver
                cases hkd : (at_ r.L k).f1 <;> simp [hp2, hne']
              have hdne : s = td → n1 ≠ n2 := by
                rintro rfl rfl
                apply hsm
                rw [HL_.out, HM_.out]
                have w1 := (walk_way hG (l := d1) (by rw [hke3])).2
                have w2 := (walk_way hG (l := d2) (by rw [hke2])).2
                rw [hke3] at w1
                rw [hke2] at w2
                simp only at w1 w2
                rw [← w1, ← w2]
              have hrl : (rFree r x).L.length = nL := by show (r.L.set x z58).length = _; rw [List.length_set, HnL.out]
              have haftd : at_ (rFree r x).L td = at_ r.L td := by show at_ (r.L.set x z58) td = _; rw [at_set _ _ _ hxlt, if_neg (fun e => hxtd e.symm)]
              have hafs : at_ (rFree r x).L s = at_ r.L s := by show at_ (r.L.set x z58) s = _; rw [at_set _ _ _ hxlt, if_neg (fun e => hxs e.symm)]
              have hlen : (overRS r td k x n2).L.length = nL := by show (setF3 (rFree r x).L td _).length = _; rw [setF3_length, hrl]
              have hw4 : ∃ k4, whose (at_ (overRS r td k x n2).L s).f3 n1 = some k4 := by
                show ∃ k4, whose (at_ (setF3 (rFree r x).L td (swapS (at_ (rFree r x).L td).f3 n2 ((k : Int) + 1))) s).f3 n1 = some k4
                rw [at_setF3 _ _ _ (by rw [hrl]; exact htd)]
                by_cases hst : s = td
                · rw [if_pos hst, haftd]
                  exact ⟨k, whose_swap hw hn2 (hG.names td hlive1) _ (by rw [← hst]; exact hp1) (hdne hst)⟩
                · rw [if_neg hst, hafs]
                  exact ⟨k, hp1⟩
              have hl4 : (at_ (overRS r td k x n2).L s).f3.length ≤ N := by
                show (at_ (setF3 (rFree r x).L td (swapS (at_ (rFree r x).L td).f3 n2 ((k : Int) + 1))) s).f3.length ≤ N
                rw [at_setF3 _ _ _ (by rw [hrl]; exact htd)]
                by_cases hst : s = td
                · rw [if_pos hst]
                  show (swapS (at_ (rFree r x).L td).f3 n2 ((k : Int) + 1)).length ≤ N
                  rw [swapS_length, haftd]; exact hl3
                · rw [if_neg hst, hafs]
                  exact hL.slots s
              obtain ⟨k4, hw4⟩ := hw4
              obtain ⟨j4, -, hat4, -⟩ := whose_atS hw4 hnn1
              obtain ⟨x4, htk⟩ := take_f (at_ (overRS r td k x n2).L s).f3 n1 (by omega) j4 hat4 (2 * (at_ (overRS r td k x n2).L s).f3.length + 60) (Nat.le_refl _)
              have hsw : swapS (at_ r.L td).f3 n2 ((k : Int) + 1) = (at_ r.L td).f3.set jj ⟨((at_ r.L td).f3.getD jj z106).f0, (k : Int) + 1⟩ := by unfold swapS; rw [hatx]
              have hov2 : overRS r td k x n2 = { rFree r x with L := setF3 (rFree r x).L td ((at_ r.L td).f3.set jj ⟨((at_ r.L td).f3.getD jj z106).f0, (k : Int) + 1⟩) } := by
                rw [← hsw, ← haftd]; rfl
              have HRES := Lib.hid hres
              have HTK := Lib.hid htk
              have HOV := Lib.hid hov2
              have HTD := Lib.hid haftd
              have hjji : (jj : Int) < ((at_ r.L td).f3.length : Int) := by omega
              have hfp : 0 < (at_ r.L td).f3.length := by omega
              have Hf3 : Hid ((at_ r.L td).f3.length = (at_ r.L td).f3.length) := Lib.hid rfl
              have hov0 : (rOver r.L k x != 0) = false := by rw [hov]; rfl
              rw [hov] at hover
              clear hl hm hwalk1 hwalk2 hwalk3 hres hat1 hp1 hp2 hw hwas hadB hbdB hbox hC3 hke hke2 hke3 hj1l hmem hwh hgd hx1 hjn hne hatx hov hov0 hdne hafs haftd hw4 hat4 htk hsw hov2
              have hsum : IntKind.i64.wrap ((k : Int) + 1) = (k : Int) + 1 := IntWalk.i64_in _ (by omega)
              rcases (by omega : ¬ ((j : Int) < (N1 : Int) + 1) ∨ ((j : Int) < (N1 : Int) + 1 ∧ ¬ ((j : Int) < (N2 : Int) + 1))) with hjA | ⟨hjA, hjB⟩
              all_goals
                go_wp2
                go_quiet ((go_at_call 44; exact quiet_of2 (hat _)))
                go_wp2_with (first
                  | (go_at_call 53; refine (hover _ (by exact pw_below_drewN (Below.refl _ _) _)).mono ?_; rintro e w1 ⟨rfl, hb1⟩
                     have hB1 : Below w.heap.size w w1 := (pw_below_drewN (Below.refl _ _) _).trans hb1)
                  | (go_at_call 51; refine (hfree _ hB1).mono ?_; rintro e w2 ⟨rfl, b1, hR1, hK1, hb1'⟩
                     have hk51 : Keeps (fun k => k = q ∨ k = b) w w2 := (Keeps.of_below hB1 : Keeps (fun k => k = q ∨ k = b) w _).trans hK1
                     have hb51 : b1 = b ∨ w.heap.size ≤ b1 := hb1'.imp id (fun h => Nat.le_trans (Below.size (B := w.heap.size) hB1) h)
                     obtain ⟨cap1, hq1, hr1⟩ := hR1.row
                     obtain ⟨t0, t1, t2⟩ := hq1.cells
                     have hqz := hq1.lt
                     have hbz := hR1.row_lt
                     obtain ⟨p2, p3, k0, k1, k2, k3', hp2, hp3, hpz⟩ := ref_elem hr1 td (by rw [hrl]; exact htd)
                     have pz3 := hpz 3
                     obtain ⟨A4, c4, rfl, hc4, hC4⟩ := Kd.R_reads hp3
                     rw [HTD.out] at hc4 hC4 k3'
                     rw [hrl] at t0
                     have hoE : k106.R 106 (w2.alloc (.cells #[] 106)) w2.heap.size (fun _ => True) (.slice (some ⟨w2.heap.size, 0, none⟩) 0 0) [] := R_empty0 w2 106 k106
                     have hbE : Below w2.heap.size w2 (w2.alloc (.cells #[] 106)) := (Below.refl _ w2).alloc (Nat.le_refl _) _
                     clear hp2 hp3 hr1 k0 k1 k2 t1 t2 hq1)
                  | (at_builtin
                     refine Kd.R_append_rows k106 (Rr := k106.K w2) (w0 := w2) w2.heap.size rfl _ _ 56 106 (.agg #[(.string ⟨#[]⟩), (.int .i64 0)]) 24 rfl Tryz.underlying56 PTreeTwins.info106 rfl (by decide) (by decide) (.slice (some ⟨w2.heap.size, 0, none⟩) 0 0) [] (at_ r.L td).f3 A4 (at_ r.L td).f3.length c4 (fun _ => True) (fun _ => False) rfl rfl hoE (ReadsRow.imp_ hC4 hbE (fun _ _ hp => hp)) (fun _ _ hp => hp) (fun _ hk => hk.elim) (fun _ _ => trivial) hbE hbE.size (by simp; omega) ?_
                     intro v3 w3 ho3 hb3 hg3 hat3
                     simp only [List.nil_append] at ho3
                     obtain ⟨AS, cS, rfl, hcS, _⟩ := Kd.R_reads ho3
                     obtain ⟨g3, _, eA, hg1, hg2, _⟩ := Kd.R_form ho3 hfp
                     cases eA
                     obtain ⟨u1, u2, hS3⟩ := slot_set ho3 jj hjjl ((k : Int) + 1)
                     have t0' := (hb3.cell (p := ⟨q, 0, none⟩) hqz).trans t0
                     have t3' := (hb3.cell (p := ⟨b1, td * 4 + 3, none⟩) hbz).trans k3'
                     have tf' := (hb3.frozen (p := ⟨b1, td * 4 + 3, none⟩) hbz).trans pz3))
                clear hsum hat hover hfree hoE hbE c0 c1 c2 e1 e3 sl1 hcellb
                obtain ⟨W4, hW4⟩ : ∃ W4, W4 = ((w3.setCell ⟨g3, jj * 2 + 1, none⟩ (.int .i64 ((k : Int) + 1))).setCell ⟨b1, td * 4 + 3, none⟩ (.slice (some ⟨g3, 0, none⟩) (at_ r.L td).f3.length cS)) := ⟨_, rfl⟩
                have hg30 : w2.heap.size ≤ g3 := hg1
                have F : RefAt W4 q b1 (overRS r td k x n2) := by
                  rw [hW4, HOV.out]
                  have F1 : RefP (fun i => i ≠ g3) w3 q b1 (rFree r x) := (hR1.toP (fun i hi => by omega)).below hb3
                  have F2 := (F1.far (p := ⟨g3, jj * 2 + 1, none⟩) (fun h => h rfl) (by show g3 ≠ q; omega) (.int .i64 ((k : Int) + 1))).toAt
                  exact F2.setS td (by rw [hrl]; exact htd) _ _ (Kd.R_mono (Kd.R_lower (Kd.R_bound hS3) (Nat.zero_le _)) (fun i hi => ⟨trivial, fun e => by have h5 : w2.heap.size ≤ i := hi.2.1; omega⟩))
                have K2 : Keeps (fun i => i = q ∨ i = b) w W4 := by
                  rw [hW4]
                  exact ((hk51.trans (Keeps.of_below hb3)).setCell (p := ⟨g3, jj * 2 + 1, none⟩) (.inr (Nat.le_trans hk51.size hg30)) _).setCell (p := ⟨b1, td * 4 + 3, none⟩) (by rcases hb51 with e | e; exact .inl (.inr e); exact .inr e) _
                have hnm2 : W4.cell? (ad.add N1) = some (.string n1) := K2.cell hn1c (fun e => by
                  rw [addr_block] at e
                  exact e.elim hadq hadb)
                rw [← hW4]
                clear hW4 hS3 u1 u2 t0' t3' tf' ho3 hb3 hg3 hat3 hC4 t0 k3' pz3 hn1c hn2c hb1
                obtain ⟨cap4, hq4, hr4⟩ := F.row
                obtain ⟨t0, t1, t2⟩ := hq4.cells
                obtain ⟨p2, p3, k0, k1, k2, k3', hp2, hp3, hpz⟩ := ref_elem hr4 s (by rw [hlen]; exact hs)
                have pz3 := hpz 3
                obtain ⟨A5, k5, rfl, hk5, hC5⟩ := Kd.R_reads hp3
                rw [hlen] at t0
                have htake := fun W (hW : Below W4.heap.size W4 W) => PTreeTwins.mailbagref9_Take.calls (2 * (at_ (overRS r td k x n2).L s).f3.length + 60) A5 k5 (at_ (overRS r td k x n2).L s).f3 n1 _ x4 0 W (Kd.C_below hC5 hW) hk5 HTK.out
                have hcellb : ∀ (p : Addr) (v : Value) (W : World), W4.cell? p = some v → Below W4.heap.size W4 W → W.cell? p = some v := fun p v W hp hW => (hW.cell (World.block_lt_of_cell? W4 p hp)).trans hp
                have hbW2 : b1 < W4.heap.size := F.row_lt
                clear hp2 hp3 hr4 hC5 k0 k1 k2 hq4 t1 t2
                generalize hn4 : (at_ (overRS r td k x n2).L s).f3.length = n4 at *
                go_region_held3 (fun W' => W'.cell? ⟨q, 0, none⟩ = some (.slice (some ⟨b1, 0, none⟩) nL cap4) ∧ W'.cell? ⟨b1, s * 4 + 3, none⟩ = some (.slice A5 n4 k5) ∧ W'.cell? (ad.add N1) = some (.string n1))
                  (first | go_keep | assumption)
                  (first
                    | (go_at_call 52; refine (htake _ (by exact pw_below_drewN (Below.refl _ _) _)).mono ?_; rintro e w5 ⟨vT, rfl, hRT, hb2⟩
                       obtain ⟨AT, cT, rfl, hcT, _⟩ := Kd.R_reads hRT
                       have hB2 : Below W4.heap.size W4 w5 := (pw_below_drewN (Below.refl _ _) _).trans hb2
                       have hS2 : w5.cell? ⟨q, 0, none⟩ = some (.slice (some ⟨b1, 0, none⟩) nL cap4) ∧ w5.cell? ⟨b1, s * 4 + 3, none⟩ = some (.slice A5 n4 k5) ∧ w5.cell? (ad.add N1) = some (.string n1) := ⟨hcellb _ _ _ t0 hB2, hcellb _ _ _ k3' hB2, hcellb _ _ _ hnm2 hB2⟩))
                all_goals
                  obtain ⟨u0, u1, u2⟩ := hS2
                  have u3 := hB2.frozen (p := ⟨b1, s * 4 + 3, none⟩) hbW2
                  rw [pz3] at u3
                  go_wp2
                  go_ret
                  rw [HRES.out]
                  refine ⟨rfl, b1, ?_, ?_, hb51⟩
                  · unfold tookRS
                    exact (F.below hB2).setS s (by rw [hlen]; exact hs) _ _ (Kd.R_mono (Kd.R_lower (Kd.R_bound hRT) (Nat.zero_le _)) (fun i hi => ⟨trivial, fun e => by have h5 : W4.heap.size ≤ i := hi.2.1; omega⟩))
                  · exact (K2.trans (Keeps.of_below hB2)).setCell (p := ⟨b1, s * 4 + 3, none⟩) (by rcases hb51 with e | e; exact .inl (.inr e); exact .inr e) _
            · rw [if_pos hov] at hres
              have hovb : (rOver r.L k x != 0) = true := by simpa using hov
              have HRES := Lib.hid hres
              clear hl hm hwalk1 hwalk2 hwalk3 hres hat1 hp1 hw hwas hadB hbdB hbox hC3 hke hke2 hke3 hj1l hmem hwh hgd hx1 hjn hne hatx
              generalize (at_ r.L td).f3.length = n3 at *
              generalize rOver r.L k x = ov at *
              rcases (by omega : ¬ ((j : Int) < (N1 : Int) + 1) ∨ ((j : Int) < (N1 : Int) + 1 ∧ ¬ ((j : Int) < (N2 : Int) + 1))) with hjA | ⟨hjA, hjB⟩
              all_goals
                go_wp2
                go_quiet ((go_at_call 44; exact quiet_of2 (hat _)))
                go_wp2_with (first | (go_at_call 53; refine (hover _ (by exact pw_below_drewN (Below.refl _ _) _)).mono ?_; rintro e w1 ⟨rfl, hb1⟩))
                go_ret
                rw [HRES.out]
                exact ⟨rfl, DidR.none HH.out ((pw_below_drewN (Below.refl _ _) _).trans hb1)⟩
          | none =>
            rw [hw] at hres hwas
            simp only at hres
            have hano : atS (at_ r.L td).f3 n2 = none := by
              cases ha : atS (at_ r.L td).f3 n2 with
              | none => rfl
              | some _ => rw [ha] at hwas; cases hwas
            simp only [atI_none hano] at hat
            by_cases hst : s = td
            · subst hst
              rw [if_pos rfl] at hres
              have hmv := move_f (at_ r.L s).f3 n1 n2 (by omega) hok2 j1 hat1 hano (2 * (at_ r.L s).f3.length + 60) (Nat.le_refl _)
              have hmove := fun W (hW : Below w.heap.size w W) => PTreeTwins.mailbagref9_Move.calls (2 * (at_ r.L s).f3.length + 60) A3 k3 (at_ r.L s).f3 n1 n2 _ 0 W (Kd.C_below hC3 hW) hk3 hmv
              have HRES := Lib.hid hres
              have HA := Lib.hid hadB
              clear hl hm hwalk1 hwalk2 hwalk3 hres hmv hano hat1 hp1 hw hwas hadB hbdB hbox hC3 hke hke2 hke3 hj1l
              generalize (at_ r.L s).f3.length = n3 at *
              rcases (by omega : ¬ ((j : Int) < (N1 : Int) + 1) ∨ ((j : Int) < (N1 : Int) + 1 ∧ ¬ ((j : Int) < (N2 : Int) + 1))) with hjA | ⟨hjA, hjB⟩
              all_goals
                go_wp2
                go_quiet ((go_at_call 44; exact quiet_of2 (hat _)))
                go_wp2
                go_region_held3 (fun W' => W'.cell? ⟨q, 0, none⟩ = some (.slice (some ⟨b, 0, none⟩) nL cap) ∧ W'.cell? ⟨b, s * 4 + 3, none⟩ = some (.slice A3 n3 k3) ∧ W'.cell? (ad.add N1) = some (.string n1) ∧ W'.cell? (bd.add N2) = some (.string n2))
                  (first | go_keep | assumption)
                  (first
                    | (go_at_call 54; refine (hmove _ (by exact pw_below_drewN (Below.refl _ _) _)).mono ?_; rintro e w1 ⟨vS, rfl, hRS, hb1⟩
                       obtain ⟨AS, cS, rfl, hcS, _⟩ := Kd.R_reads hRS
                       have hB1 : Below w.heap.size w w1 := (pw_below_drewN (Below.refl _ _) _).trans hb1
                       have hS1 : w1.cell? ⟨q, 0, none⟩ = some (.slice (some ⟨b, 0, none⟩) nL cap) ∧ w1.cell? ⟨b, s * 4 + 3, none⟩ = some (.slice A3 n3 k3) ∧ w1.cell? (ad.add N1) = some (.string n1) ∧ w1.cell? (bd.add N2) = some (.string n2) := ⟨hcellb _ _ _ c0 hB1, hcellb _ _ _ e3 hB1, hcellb _ _ _ hn1c hB1, hcellb _ _ _ hn2c hB1⟩))
                all_goals
                  obtain ⟨z0, z1, z2, z3⟩ := hS1
                  have z4 := hB1.frozen (p := ⟨b, s * 4 + 3, none⟩) hblt
                  rw [hfr3] at z4
                  go_wp2
                  go_ret
                  rw [HRES.out]
                  refine ⟨rfl, b, (HH.out.below hB1).setS s (by rw [HnL.out]; exact hs) _ _ (Kd.R_mono (Kd.R_lower (Kd.R_bound hRS) (Nat.zero_le _)) (fun k hk => ⟨trivial, fun e => by have h5 : w.heap.size ≤ k := hk.2.1; omega⟩)), (Keeps.of_below hB1).setCell (p := ⟨b, s * 4 + 3, none⟩) (.inl (.inr rfl)) _, .inl rfl⟩
            · rw [if_neg hst] at hres
              obtain ⟨xp, hputf⟩ := put_f (at_ r.L td).f3 n2 ((k : Int) + 1) (by omega) hok2 hano (by omega) (by omega) (2 * (at_ r.L td).f3.length + 60) (Nat.le_refl _)
              have hput := fun W (hW : Below w.heap.size w W) => PTreeTwins.mailbagref9_Put.calls (2 * (at_ r.L td).f3.length + 60) A3 k3 (at_ r.L td).f3 n2 ((k : Int) + 1) _ xp 0 W (Kd.C_below hC3 hW) hk3 hputf
              have hpl : (putS (at_ r.L td).f3 n2 ((k : Int) + 1)).length ≤ 2001 := by rw [putS_length]; split <;> omega
              have hneed1 := fun W (hW : Below w.heap.size w W) => rneed_calls A3 k3 (at_ r.L td).f3 W (Kd.C_below hC3 hW) hk3 (by omega)
              have hl4 := hL.slots s
              obtain ⟨x4, htk⟩ := take_f (at_ r.L s).f3 n1 (by omega) j1 hat1 (2 * (at_ r.L s).f3.length + 60) (Nat.le_refl _)
              have has : at_ (putRS r td k n2).L s = at_ r.L s := by
                show at_ (setF3 r.L td _) s = _
                rw [at_setF3 _ _ _ (by rw [HnL.out]; exact htd), if_neg hst]
              have hpr : putRS r td k n2 = { r with L := setF3 r.L td (putS (at_ r.L td).f3 n2 ((k : Int) + 1)), bl := r.bl - (needS (putS (at_ r.L td).f3 n2 ((k : Int) + 1)) - needS (at_ r.L td).f3) } := rfl
              generalize hs1 : putS (at_ r.L td).f3 n2 ((k : Int) + 1) = s1 at *
              generalize hx2 : needS s1 = x2 at *
              generalize hx1 : needS (at_ r.L td).f3 = x1 at *
              have Hx2 := Lib.hid hx2
              have hbd2 : 0 ≤ x2 ∧ x2 ≤ 16720 := by rw [← hx2]; exact needS_bd s1 (by omega)
              have hbd1 : 0 ≤ x1 ∧ x1 ≤ 16720 := by rw [← hx1]; exact needS_bd _ (by omega)
              have HRES := Lib.hid hres
              have HPR := Lib.hid hpr
              have HAS := Lib.hid has
              have HTK := Lib.hid htk
              have hbl0 := hL.bl0
              have hbl1 := hL.bl1
              have hqb : b ≠ q := fun e => HH.out.ne (fun e0 => by have := congrArg List.length e0; rw [HnL.out] at this; simp at this; omega) e.symm
              clear hl hm hwalk1 hwalk2 hwalk3 hres hpr has htk hputf hano hat1 hp1 hw hwas hadB hbdB hbox hC3 hke hke2 hke3 hj1l hs1 hx1 hx2
              generalize (at_ r.L td).f3.length = n3 at *
              rcases (by omega : ¬ ((j : Int) < (N1 : Int) + 1) ∨ ((j : Int) < (N1 : Int) + 1 ∧ ¬ ((j : Int) < (N2 : Int) + 1))) with hjA | ⟨hjA, hjB⟩
              all_goals
                have hstd : ((s : Int) == (td : Int)) = false := beq_eq_false_iff_ne.2 (by omega)
                have hstd' : ¬ (s : Int) = (td : Int) := by omega
                go_wp2
                go_quiet ((go_at_call 44; exact quiet_of2 (hat _)))
                go_wp2
                have hsum : IntKind.i64.wrap ((k : Int) + 1) = (k : Int) + 1 := IntWalk.i64_in _ (by omega)
                go_region_held3 (fun W' => W'.cell? ⟨q, 0, none⟩ = some (.slice (some ⟨b, 0, none⟩) nL cap) ∧ W'.cell? ⟨b, td * 4 + 3, none⟩ = some (.slice A3 n3 k3) ∧ W'.cell? (bd.add N2) = some (.string n2))
                  (first | go_keep | assumption)
                  (first
                    | (go_at_call 45; refine (hput _ (by exact pw_below_drewN (Below.refl _ _) _)).mono ?_; rintro e w1 ⟨vS, rfl, hRS, hb1⟩
                       obtain ⟨AS, cS, rfl, hcS, _⟩ := Kd.R_reads hRS
                       have hB1 : Below w.heap.size w w1 := (pw_below_drewN (Below.refl _ _) _).trans hb1
                       have hS1 : w1.cell? ⟨q, 0, none⟩ = some (.slice (some ⟨b, 0, none⟩) nL cap) ∧ w1.cell? ⟨b, td * 4 + 3, none⟩ = some (.slice A3 n3 k3) ∧ w1.cell? (bd.add N2) = some (.string n2) := ⟨hcellb _ _ _ c0 hB1, hcellb _ _ _ e3 hB1, hcellb _ _ _ hn2c hB1⟩
                       have hns := fun m => rneed_calls AS cS s1 (w1.drewN m) (Kd.C_drewN (Kd.R_reads' hRS).2.2 m) hcS (by omega)
                       simp only [Hx2.out] at hns
                       have hn1 := fun m => hneed1 (w1.drewN m) (pw_below_drewN hB1 m)))
                all_goals
                  obtain ⟨z0, z1, z2⟩ := hS1
                  have y1 := hcellb _ _ _ c1 hB1
                  have hy1 := hcellb _ _ _ hn1c hB1
                  have HN1 := Lib.hid hn1c
                  clear hsum hput hneed1 c0 c1 c2 e1 e3 hn1c hn2c hcellb hat
                  go_wp2
                  go_quiet (first
                    | (go_at_call 46; exact Calls.quiet_of (hns _))
                    | (go_at_call 46; exact Calls.quiet_of (hn1 _)))
                  by_cases hmo : x2 - x1 > r.bl
                  · have hd2 : decide (r.bl < x2 - x1) = true := decide_eq_true hmo
                    go_wp2
                    go_ret
                    rw [HRES.out, if_pos hmo]
                    exact ⟨rfl, DidR.none HH.out (pw_below_drewN hB1 _)⟩
                  · have hd2 : decide (r.bl < x2 - x1) = false := decide_eq_false hmo
                    have hf1 := hB1.frozen (p := ⟨q, 1, none⟩) hqlt
                    rw [hfq1] at hf1
                    have z4 := hB1.frozen (p := ⟨b, td * 4 + 3, none⟩) hblt
                    rw [hfr3] at z4
                    go_wp2
                    obtain ⟨W2, hW2⟩ : ∃ W2, W2 = (((w1.drewN nq).setCell ⟨q, 1, none⟩ (.int .i64 (r.bl - (x2 - x1)))).setCell ⟨b, td * 4 + 3, none⟩ (.slice AS s1.length cS)) := ⟨_, rfl⟩
                    have hlen : (putRS r td k n2).L.length = nL := by show (setF3 r.L td _).length = _; rw [setF3_length, HnL.out]
                    have hKq : Keeps (fun k => k = q) w1 ((w1.drewN nq).setCell ⟨q, 1, none⟩ (.int .i64 (r.bl - (x2 - x1)))) := ((Keeps.refl (fun k => k = q) w1).drewN nq).setCell (p := ⟨q, 1, none⟩) (.inl rfl) _
                    have hRS' : k106.R 106 ((w1.drewN nq).setCell ⟨q, 1, none⟩ (.int .i64 (r.bl - (x2 - x1)))) w.heap.size (fun k => w.heap.size ≤ k ∧ k < w1.heap.size) (.slice AS s1.length cS) s1 :=
                      Kd.R_step (Kd.R_mono (Kd.R_bound hRS) (fun k hk => ⟨hk.2.1, hk.2.2.1⟩)) (fun k hk _ => hKq.block k hk.2 (fun e => by omega))
                    have F : RefAt W2 q b (putRS r td k n2) := by
                      rw [hW2, HPR.out]
                      exact ((HH.out.below (pw_below_drewN hB1 nq)).setBl _).setS td (by show td < r.L.length; rw [HnL.out]; exact htd) _ _ (Kd.R_mono (Kd.R_lower hRS' (Nat.zero_le _)) (fun k hk => ⟨trivial, fun e => by omega⟩))
                    have K2 : Keeps (fun k => k = q ∨ k = b) w W2 := by
                      rw [hW2]
                      exact ((Keeps.of_below (pw_below_drewN hB1 nq) : Keeps (fun k => k = q ∨ k = b) w _).setCell (p := ⟨q, 1, none⟩) (.inl (.inl rfl)) _).setCell (p := ⟨b, td * 4 + 3, none⟩) (.inl (.inr rfl)) _
                    have hnm2 : W2.cell? (ad.add N1) = some (.string n1) := K2.cell HN1.out (fun e => by
                      rw [addr_block] at e
                      exact e.elim hadq hadb)
                    rw [← hW2]
                    clear hRS' hKq hW2 z0 z1 z2 z4 hf1 y1 hy1 hns hn1 hRS
                    obtain ⟨cap4, hq4, hr4⟩ := F.row
                    obtain ⟨t0, t1, t2⟩ := hq4.cells
                    obtain ⟨p2, p3, k0, k1, k2, k3', hp2, hp3, hpz⟩ := ref_elem hr4 s (by rw [hlen]; exact hs)
                    have pz3 := hpz 3
                    obtain ⟨A4, k4, rfl, hk4, hC4⟩ := Kd.R_reads hp3
                    rw [HAS.out] at hk4 hC4 k3'
                    rw [hlen] at t0
                    have htake := fun W (hW : Below W2.heap.size W2 W) => PTreeTwins.mailbagref9_Take.calls (2 * (at_ r.L s).f3.length + 60) A4 k4 (at_ r.L s).f3 n1 _ x4 0 W (Kd.C_below hC4 hW) hk4 HTK.out
                    have hcellb : ∀ (p : Addr) (v : Value) (W : World), W2.cell? p = some v → Below W2.heap.size W2 W → W.cell? p = some v := fun p v W hp hW => (hW.cell (World.block_lt_of_cell? W2 p hp)).trans hp
                    have hbW2 : b < W2.heap.size := F.row_lt
                    clear hp2 hp3 hr4 hC4 k0 k1 k2 hq4 t1 t2
                    generalize hn4 : (at_ r.L s).f3.length = n4 at *
                    go_region_held3 (fun W' => W'.cell? ⟨q, 0, none⟩ = some (.slice (some ⟨b, 0, none⟩) nL cap4) ∧ W'.cell? ⟨b, s * 4 + 3, none⟩ = some (.slice A4 n4 k4) ∧ W'.cell? (ad.add N1) = some (.string n1))
                      (first | go_keep | assumption)
                      (first
                        | (go_at_call 52; refine (htake _ (by exact pw_below_drewN (Below.refl _ _) _)).mono ?_; rintro e w3 ⟨vT, rfl, hRT, hb2⟩
                           obtain ⟨AT, cT, rfl, hcT, _⟩ := Kd.R_reads hRT
                           have hB2 : Below W2.heap.size W2 w3 := (pw_below_drewN (Below.refl _ _) _).trans hb2
                           have hS2 : w3.cell? ⟨q, 0, none⟩ = some (.slice (some ⟨b, 0, none⟩) nL cap4) ∧ w3.cell? ⟨b, s * 4 + 3, none⟩ = some (.slice A4 n4 k4) ∧ w3.cell? (ad.add N1) = some (.string n1) := ⟨hcellb _ _ _ t0 hB2, hcellb _ _ _ k3' hB2, hcellb _ _ _ hnm2 hB2⟩))
                    all_goals
                      obtain ⟨u0, u1, u2⟩ := hS2
                      have u3 := hB2.frozen (p := ⟨b, s * 4 + 3, none⟩) hbW2
                      rw [pz3] at u3
                      go_wp2
                      go_ret
                      rw [HRES.out, if_neg (by omega)]
                      refine ⟨rfl, b, ?_, ?_, .inl rfl⟩
                      · unfold tookRS
                        rw [HAS.out]
                        exact (F.below hB2).setS s (by rw [hlen]; exact hs) _ _ (Kd.R_mono (Kd.R_lower (Kd.R_bound hRT) (Nat.zero_le _)) (fun k hk => ⟨trivial, fun e => by have h5 : W2.heap.size ≤ k := hk.2.1; omega⟩))
                      · exact (K2.trans (Keeps.of_below hB2)).setCell (p := ⟨b, s * 4 + 3, none⟩) (.inl (.inr rfl)) _
end Go.Proofs.YtmjhflmkgmfjkaaGreatDoor
