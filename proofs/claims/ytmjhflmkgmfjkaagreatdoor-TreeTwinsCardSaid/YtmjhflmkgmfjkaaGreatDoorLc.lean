/- A part of the proof: L4, R1. -/
import Derived.Test.YtmjhflmkgmfjkaaGreatDoorLb
import Derived.Test.YtmjhflmkgmfjkaaGreatDoorOa
import Derived.Test.YtmjhflmkgmfjkaaGreatDoorYi
import Derived.Test.YtmjhflmkgmfjkaaGreatDoorYj
import Derived.Deep.Slices
import Derived.Deep.Fields
import Derived.ChangeSame
set_option linter.unusedVariables false
set_option linter.unusedSimpArgs false
namespace Go.Proofs.YtmjhflmkgmfjkaaGreatDoor
open Go.RowKit Go.Proofs.YtmjhflmkgmfjkaaGreatDoorW.PrintWords Go.Proofs.YtmjhflmkgmfjkaaGreatDoorW.PrintMore
open PTreeTwins (S58 S106 S35 S76 S78 z58 z106 z78 k58 k106 k78 k35)
theorem few_at (w : World) (A : Option Addr) (c : Nat) (l : List S35) (hl : Kd.C k35 w A l.length l) (hc : l.length ≤ c) {b : Bool} (hb : PTreeTwins.mailbaglaw11_Few.f 200 l = some b) : Calls Tryz.prog 5 #[.slice A l.length c] w fun e w' => e = .returned (.bool b) ∧ ∃ n, w' = w.drewN n := by
  refine (PTreeTwins.mailbaglaw11_Few.calls 200 A c l b _ hl hc hb).mono ?_
  rintro e w' ⟨rfl, hd⟩
  obtain ⟨m, rfl⟩ := hd.out
  exact ⟨rfl, m, rfl⟩
/-- one act, on both -/
theorem both_do {w : World} {B t q b N : Nat} {f g : Nat → Nat} {r : RS} (h : Both w B t f g q b r N) (o : S35) (Ad : Option Addr) (cd : Nat) (hd : kB.C w Ad o.f3.length o.f3) :
    Calls Tryz.prog 8 #[.pointer (some ⟨t, 0, none⟩), opVal o.f0 o.f1 o.f2 Ad o.f3.length cd o.f4] w fun e w' => e = .returned (.int .i64 (rDo o r).2) ∧ (((rDo o r).2 = 0 → Did w t f g r (rDo o r).1 w') ∧ ((rDo o r).2 ≠ 0 → Below w.heap.size w w')) := by
  obtain ⟨way, hG⟩ := h.good
  have := do_calls w t f g way r N h.impl hG h.lim o Ad o.f3.length cd hd
  rw [iPlan_eq hG h.lim.bl0] at this
  exact this
theorem both_rdo {w : World} {q b N : Nat} {r : RS} (hR : RefAt w q b r) (hG : ∃ way, Good r.L way) (hL : Lim r N) (o : S35) (Ad : Option Addr) (cd : Nat) (hd : kB.C w Ad o.f3.length o.f3) (hcd : o.f3.length ≤ cd) (hdl : o.f3.length ≤ 10000000) :
    Calls Tryz.prog 9 #[.pointer (some ⟨q, 0, none⟩), opVal o.f0 o.f1 o.f2 Ad o.f3.length cd o.f4] w fun e w' => e = .returned (.int .i64 (rDo o r).2) ∧ DidR w q b (rDo o r).1 w' := by
  obtain ⟨way, hG⟩ := hG
  exact rdo_calls w q b r hR hG hL o Ad cd hd hcd hdl
/-- an act's cells -/
theorem law_cells {w : World} {A : Option Addr} {l : List S35} (h : Kd.C k35 w A l.length l) {j : Nat} (hj : j < l.length) : ∃ ad A3 c3, A = some ad ∧ (PTreeTwins.rd_T35 l (j : Int)).f3.length ≤ c3 ∧ ∀ W : World, Below w.heap.size w W → W.cell? (ad.add (j * 5)) = some (.int .i64 (PTreeTwins.rd_T35 l (j : Int)).f0) ∧ W.cell? ⟨(ad.add (j * 5)).block, (ad.add (j * 5)).off + 1, none⟩ = some (.string (PTreeTwins.rd_T35 l (j : Int)).f1) ∧ W.cell? ⟨(ad.add (j * 5)).block, (ad.add (j * 5)).off + 2, none⟩ = some (.string (PTreeTwins.rd_T35 l (j : Int)).f2) ∧ W.cell? ⟨(ad.add (j * 5)).block, (ad.add (j * 5)).off + 3, none⟩ = some (.slice A3 (PTreeTwins.rd_T35 l (j : Int)).f3.length c3) ∧ W.cell? ⟨(ad.add (j * 5)).block, (ad.add (j * 5)).off + 4, none⟩ = some (.int .i64 (PTreeTwins.rd_T35 l (j : Int)).f4) ∧ kB.C W A3 (PTreeTwins.rd_T35 l (j : Int)).f3.length (PTreeTwins.rd_T35 l (j : Int)).f3 := by
  obtain ⟨ad, A3, c3, e, h0, h1, h2, h3, h4, h5, h6⟩ := PTreeTwins.at_T35 h (j : Int) (by omega) (by omega)
  rw [Int.toNat_natCast] at h0 h1 h2 h3 h4
  have hlt := World.block_lt_of_cell? w _ h0
  refine ⟨ad, A3, c3, e, h5, fun W hW => ⟨(hW.cell hlt).trans h0, (hW.cell (p := ⟨(ad.add (j * 5)).block, (ad.add (j * 5)).off + 1, none⟩) hlt).trans h1, (hW.cell (p := ⟨(ad.add (j * 5)).block, (ad.add (j * 5)).off + 2, none⟩) hlt).trans h2, (hW.cell (p := ⟨(ad.add (j * 5)).block, (ad.add (j * 5)).off + 3, none⟩) hlt).trans h3, (hW.cell (p := ⟨(ad.add (j * 5)).block, (ad.add (j * 5)).off + 4, none⟩) hlt).trans h4, Kd.C_below h6 hW⟩⟩
set_option maxRecDepth 100000 in
set_option maxHeartbeats 2000000 in
theorem law_few0 (w : World) (A0 A1 : Option Addr) (c0 c1 : Nat) (l0 l1 : List S35) (h0 : Kd.C k35 w A0 l0.length l0) (hc0 : l0.length ≤ c0) (hf : PTreeTwins.mailbaglaw11_Few.f 200 l0 = some false) :
    Calls Tryz.prog 3 #[.slice A0 l0.length c0, .slice A1 l1.length c1] w fun e w' => e = .returned (.bool true) ∧ Below w.heap.size w w' := by
  have hkn := known_calls w
  go_enter Tryz.func3, Tryz.ntmps3
  go_wp2_with (first
    | (go_at_call 4; with_reducible refine hkn.mono ?_; clear hkn; rintro e w1 ⟨rfl, hb1⟩; have hf0 := few_at w1 A0 c0 l0 (Kd.C_below h0 hb1) hc0 hf)
    | (go_at_call 5; with_reducible refine hf0.mono ?_; clear hf0; rintro e w2 ⟨rfl, n2, rfl⟩))
  go_ret
  exact ⟨rfl, pw_below_drewN hb1 _⟩
set_option maxRecDepth 100000 in
set_option maxHeartbeats 2000000 in
theorem law_few1 (w : World) (A0 A1 : Option Addr) (c0 c1 : Nat) (l0 l1 : List S35) (h0 : Kd.C k35 w A0 l0.length l0) (hc0 : l0.length ≤ c0) (h1 : Kd.C k35 w A1 l1.length l1) (hc1 : l1.length ≤ c1) (hf : PTreeTwins.mailbaglaw11_Few.f 200 l0 = some true) (hf1 : PTreeTwins.mailbaglaw11_Few.f 200 l1 = some false) :
    Calls Tryz.prog 3 #[.slice A0 l0.length c0, .slice A1 l1.length c1] w fun e w' => e = .returned (.bool true) ∧ Below w.heap.size w w' := by
  have hkn := known_calls w
  go_enter Tryz.func3, Tryz.ntmps3
  go_wp2_with (first
    | (go_at_call 4; with_reducible refine hkn.mono ?_; clear hkn; rintro e w1 ⟨rfl, hb1⟩; have hf0 := few_at w1 A0 c0 l0 (Kd.C_below h0 hb1) hc0 hf)
    | (go_at_call 5; with_reducible refine hf0.mono ?_; clear hf0; rintro e w2 ⟨rfl, n2, rfl⟩; have hf2 := few_at (w1.drewN n2) A1 c1 l1 (Kd.C_drewN (Kd.C_below h1 hb1) n2) hc1 hf1)
    | (go_at_call 5; with_reducible refine hf2.mono ?_; clear hf2; rintro e w3 ⟨rfl, n3, rfl⟩))
  go_ret
  exact ⟨rfl, pw_below_drewN hb1 _⟩
set_option maxRecDepth 100000 in
set_option maxHeartbeats 4000000 in
theorem law_plays (w : World) (A0 A1 : Option Addr) (c0 c1 : Nat) (l0 l1 : List S35) (h0 : Kd.C k35 w A0 l0.length l0) (hc0 : l0.length ≤ c0) (h1 : Kd.C k35 w A1 l1.length l1) (hc1 : l1.length ≤ c1) (hf : PTreeTwins.mailbaglaw11_Few.f 200 l0 = some true) (hf1 : PTreeTwins.mailbaglaw11_Few.f 200 l1 = some true)
    (hn0 : l0.length ≤ 150) (hd0 : ∀ j, j < l0.length → (PTreeTwins.rd_T35 l0 (j : Int)).f3.length ≤ 8192) (hn1 : l1.length ≤ 150) (hd1 : ∀ j, j < l1.length → (PTreeTwins.rd_T35 l1 (j : Int)).f3.length ≤ 8192) :
    Calls Tryz.prog 3 #[.slice A0 l0.length c0, .slice A1 l1.length c1] w fun e w' => e = .returned (.bool true) ∧ Below w.heap.size w w' := by
  have hkn := known_calls w
  have hin : (l0.length : Int) ≤ 150 := by omega
  go_enter Tryz.func3, Tryz.ntmps3
  go_wp2_with (first
    | (go_at_call 4; with_reducible refine hkn.mono ?_; clear hkn; rintro e w1 ⟨rfl, hb1⟩; have hf0 := few_at w1 A0 c0 l0 (Kd.C_below h0 hb1) hc0 hf)
    | (go_at_call 5; with_reducible refine hf0.mono ?_; clear hf0; rintro e w2 ⟨rfl, n2, rfl⟩; have hf2 := few_at (w1.drewN n2) A1 c1 l1 (Kd.C_drewN (Kd.C_below h1 hb1) n2) hc1 hf1)
    | (go_at_call 5; with_reducible refine hf2.mono ?_; clear hf2; rintro e w3 ⟨rfl, n3, rfl⟩
       have hB3 : Below w.heap.size w (w1.drewN (n2 + n3)) := pw_below_drewN hb1 _
       have hnew := new_calls 60 40 (w1.drewN (n2 + n3)) (by decide) (by decide) (by decide) (by decide))
    | (go_at_call 6; with_reducible refine hnew.mono ?_; clear hnew; rintro e w4 ⟨t, f0, g0, rfl, hb4, hI4, ho4⟩
       have hnew2 := rnew_calls 60 40 w4 (by decide) (by decide) (by decide) (by decide))
    | (go_at_call 7; with_reducible refine hnew2.mono ?_; clear hnew2; rintro e w5 ⟨q, b, rfl, hb5, hR5, hq5, hbb5⟩))
  have hB5 : Below w.heap.size w w5 := below_step (below_step hB3 hb4) hb5
  have hBoth : Both w5 w.heap.size t f0 g0 q b (newRS 60 40) 0 := ⟨hI4.below hb5, hR5, ⟨_, new_good 60 40⟩, new_lim 60 40 (by decide) (by decide) (by decide) (by decide), new_nok 60 40, fun k hk => Nat.le_trans hB3.size (ho4 k hk), Nat.le_trans (below_step hB3 hb4).size hq5, Nat.le_trans (below_step hB3 hb4).size hbb5⟩
  clear hI4 hR5 ho4 hq5 hbb5 hb4 hb5 hB3 hb1
  go_loopw [9] (fun i wr => ∃ (j : Nat) (f g : Nat → Nat) (b' : Nat) (r : RS), j ≤ l0.length ∧ i = .int .i64 j ∧ Both wr w.heap.size t f g q b' r j ∧ Below w.heap.size w wr) (fun i _ => l0.length - (intOf i).toNat)
  case atStart => exact ⟨0, f0, g0, b, _, Nat.zero_le _, rfl, hBoth, hB5⟩
  case round =>
    clear hBoth hB5
    obtain ⟨j, f, g, b, r, hj, rfl, hB, hW⟩ := hrel
    by_cases hlt : j < l0.length
    · obtain ⟨ad, A3, c3, rfl, hcd, hcells⟩ := law_cells h0 hlt
      have hdl := hd0 j hlt
      obtain ⟨o, ho⟩ : ∃ o, o = PTreeTwins.rd_T35 l0 (j : Int) := ⟨_, rfl⟩
      rw [← ho] at hcd hcells hdl
      clear ho
      obtain ⟨x0, x1, x2, x3, x4, x5⟩ := hcells wr hW
      have hdo := both_do hB o A3 c3 x5
      unfold opVal at hdo
      have hlti : (j : Int) < (l0.length : Int) := by omega
      have HB := Lib.hid hB
      have HCE := Lib.hid hcells
      have HW := Lib.hid hW
      clear hB hcells hW
      go_wp2_with (first
        | (go_at_call 8; with_reducible refine hdo.mono ?_; clear hdo; rintro e w6 ⟨rfl, hd1, hd2⟩
           have hR6 := HB.out.did o hd1 hd2
           have hW6 : Below w.heap.size w w6 := HW.out.trans (HB.out.low1 HW.out.size o hd1 hd2)
           obtain ⟨y0, y1, y2, y3, y4, y5⟩ := HCE.out w6 hW6
           have hof := of_calls w6 o.f0 o.f1 o.f2 A3 o.f3.length c3 o.f4
           unfold opVal at hof)
        | (go_at_call 10; with_reducible refine hof.mono ?_; clear hof; rintro e w7 ⟨rfl, hb7⟩
           have hrdo := both_rdo (hR6.below hb7) HB.out.good HB.out.lim o A3 c3 (Kd.C_below y5 hb7) hcd (by omega)
           unfold opVal at hrdo)
        | (go_at_call 9; with_reducible refine hrdo.mono ?_; clear hrdo; rintro e w8 ⟨rfl, hdr⟩
           have hA := HB.out.act (by omega) HW.out.size o hd1 hd2 (hdr.later hb7)))
      go_roundw
      case rel =>
        have hlow := hA.low HB.out HW.out.size
        obtain ⟨⟨f', g', b', hB2, _, _⟩, _⟩ := hA
        exact ⟨j + 1, f', g', b', _, by omega, by simp, hB2, HW.out.trans hlow⟩
      case measure => simp [intOf]; omega
    · have hjl : j = l0.length := by omega
      clear hj
      subst hjl
      obtain ⟨way, hG⟩ := hB.good
      obtain ⟨d1, hdw⟩ := way_max r.L way
      have hsmall := hB.lim.small
      have hthings := hB.lim.things
      have htw := treeTwin_calls wr t f g way r hB.impl hG hB.lim.data
      have HB := Lib.hid hB
      have HW := Lib.hid hW
      have hpos := live_lt hG.root.1
      have hlts := hB.ref.lts
      clear hB hW h0
      go_wp2_with (first
        | (go_at_call 11; with_reducible refine htw.mono ?_; clear htw; rintro e w6 ⟨u, fu, gu, rfl, hb6, hU, hUo⟩
           have htw2 := rtwin_calls w6 q b r (HB.out.ref.below hb6) hpos (by omega))
        | (go_at_call 12; with_reducible refine htw2.mono ?_; clear htw2; rintro e w7 ⟨q2, b2, rfl, hb7, hS, hq2, hbq2⟩
           have hsm := treeSame_calls w7 t u f g fu gu way way r r ((HB.out.impl.below hb6).below hb7) (hU.below hb7) hG hG d1 hdw
           rw [(same_rows hG hG d1 hdw ByteArray.empty).2 rfl] at hsm)
        | (go_at_call 13; with_reducible refine hsm.mono ?_; clear hsm; rintro e w8 ⟨rfl, hb8⟩))
      have hB2 : Both w8 w.heap.size t f g q2 b2 r (l0.length + 0) := ⟨((HB.out.impl.below hb6).below hb7).below hb8, hS.below hb8, ⟨way, hG⟩, HB.out.lim, HB.out.nok, HB.out.own, by have := HW.out.size; have := hb6.size; omega, by have := HW.out.size; have := hb6.size; omega⟩
      have hO2 : Others w8 t f g q2 b2 r u fu gu q b r := ⟨(hU.below hb7).below hb8, ((HB.out.ref.below hb6).below hb7).below hb8, fun k ho ht => by have := hUo k ho; have := (HB.out.impl.own_ty ht).lt; omega, by have := hb6.size; omega, by have := hb6.size; omega⟩
      have hW8 : Below w.heap.size w w8 := below_step (below_step (below_step HW.out hb6) hb7) hb8
      obtain ⟨r1, hr1⟩ : ∃ r1, r1 = r := ⟨_, rfl⟩
      have HG1 := Lib.hid (show Good r1.L way ∧ Lim r1 l0.length ∧ NOk r1.L by rw [hr1]; exact ⟨hG, HB.out.lim, HB.out.nok⟩)
      have hO2' : Others w8 t f g q2 b2 r u fu gu q b r1 := by rw [hr1]; exact hO2
      obtain ⟨ri, hri⟩ : ∃ ri, ri = r := ⟨_, rfl⟩
      rw [← hri] at hB2 hO2'
      clear hO2 hr1 hri hU hUo hS hb6 hb7 hb8 hq2 hbq2 HB HW hlts hpos hG hdw hsmall hthings
      go_loopw [12] (fun i wr => ∃ (j : Nat) (f g : Nat → Nat) (b' : Nat) (r : RS), j ≤ l1.length ∧ i = .int .i64 j ∧ Both wr w.heap.size t f g q2 b' r (l0.length + j) ∧ Others wr t f g q2 b' r u fu gu q b r1 ∧ Below w.heap.size w wr) (fun i _ => l1.length - (intOf i).toNat)
      case atStart => exact ⟨0, f, g, b2, ri, Nat.zero_le _, rfl, hB2, hO2', hW8⟩
      case round =>
        clear hB2 hO2' hW8
        clear f g
        obtain ⟨j, f, g, bq, r, hj, rfl, hB, hO, hW⟩ := hrel
        by_cases hlt : j < l1.length
        · obtain ⟨ad, A3, c3, rfl, hcd, hcells⟩ := law_cells h1 hlt
          have hdl := hd1 j hlt
          obtain ⟨o, ho⟩ : ∃ o, o = PTreeTwins.rd_T35 l1 (j : Int) := ⟨_, rfl⟩
          rw [← ho] at hcd hcells hdl
          clear ho
          obtain ⟨x0, x1, x2, x3, x4, x5⟩ := hcells wr hW
          have hdo := both_do hB o A3 c3 x5
          unfold opVal at hdo
          have hlti : (j : Int) < (l1.length : Int) := by omega
          have HB := Lib.hid hB
          have HO := Lib.hid hO
          have HCE := Lib.hid hcells
          have HW := Lib.hid hW
          clear hB hcells hW hO
          go_wp2_with (first
            | (go_at_call 8; with_reducible refine hdo.mono ?_; clear hdo; rintro e w6 ⟨rfl, hd1', hd2⟩
               have hR6 := HB.out.did o hd1' hd2
               have hW6 : Below w.heap.size w w6 := HW.out.trans (HB.out.low1 HW.out.size o hd1' hd2)
               obtain ⟨y0, y1, y2, y3, y4, y5⟩ := HCE.out w6 hW6
               have hof := of_calls w6 o.f0 o.f1 o.f2 A3 o.f3.length c3 o.f4
               unfold opVal at hof)
            | (go_at_call 10; with_reducible refine hof.mono ?_; clear hof; rintro e w7 ⟨rfl, hb7⟩
               have hrdo := both_rdo (hR6.below hb7) HB.out.good HB.out.lim o A3 c3 (Kd.C_below y5 hb7) hcd (by omega)
               unfold opVal at hrdo)
            | (go_at_call 9; with_reducible refine hrdo.mono ?_; clear hrdo; rintro e w8 ⟨rfl, hdr⟩
               have hA := HB.out.act (by omega) HW.out.size o hd1' hd2 (hdr.later hb7)))
          go_roundw
          case rel =>
            have hlow := hA.low HB.out HW.out.size
            obtain ⟨f', g', b', hB2, hO2⟩ := HO.out.act HB.out hA
            exact ⟨j + 1, f', g', b', _, by omega, by simp, hB2, hO2, HW.out.trans hlow⟩
          case measure => simp [intOf]; omega
        · have hjl : j = l1.length := by omega
          clear hj
          subst hjl
          obtain ⟨hG1, hL1, hN1⟩ := HG1.out
          obtain ⟨way2, hG2⟩ := hB.good
          obtain ⟨d1, hdw1⟩ := way_max r1.L way
          obtain ⟨d2, hdw2⟩ := way_max r.L way2
          have hdA : ∀ j, Live r1.L j → (way j).length < d1 + d2 := fun j hj => by have := hdw1 j hj; omega
          have hdB : ∀ j, Live r.L j → (way2 j).length < d1 + d2 := fun j hj => by have := hdw2 j hj; omega
          have hk1 := looks_calls wr u fu gu q b way r1 l0.length hO.impl hO.ref hG1 hL1 hN1
          obtain ⟨a, ha⟩ : ∃ a, a = sameN (d1 + d2) r.L 0 r1.L 0 := ⟨_, rfl⟩
          obtain ⟨a2, ha2⟩ : ∃ a, a = sameN (d1 + d2) r1.L 0 r.L 0 := ⟨_, rfl⟩
          have hiff : a = true ↔ rowsN (d1 + d2) r1.L 0 ByteArray.empty = rowsN (d1 + d2) r.L 0 ByteArray.empty := by
            rw [ha, same_rows hG2 hG1 (d1 + d2) hdB ByteArray.empty]; exact eq_comm
          have hiff2 : a2 = true ↔ rowsN (d1 + d2) r1.L 0 ByteArray.empty = rowsN (d1 + d2) r.L 0 ByteArray.empty := by
            rw [ha2, same_rows hG1 hG2 (d1 + d2) hdA ByteArray.empty]
          have hs : ∀ W, Below wr.heap.size wr W → Calls Tryz.prog 13 #[.pointer (some ⟨t, 0, none⟩), .pointer (some ⟨u, 0, none⟩)] W fun e w' => e = .returned (.bool a) ∧ Below W.heap.size W w' := fun W hW' => by
            rw [ha]; exact treeSame_calls W t u f g fu gu way2 way r r1 (hB.impl.below hW') (hO.impl.below hW') hG2 hG1 (d1 + d2) hdB
          have hs2 : ∀ W, Below wr.heap.size wr W → Calls Tryz.prog 13 #[.pointer (some ⟨u, 0, none⟩), .pointer (some ⟨t, 0, none⟩)] W fun e w' => e = .returned (.bool a2) ∧ Below W.heap.size W w' := fun W hW' => by
            rw [ha2]; exact treeSame_calls W u t fu gu f g way way2 r1 r (hO.impl.below hW') (hB.impl.below hW') hG1 hG2 (d1 + d2) hdA
          have hr : ∀ W, Below wr.heap.size wr W → Calls Tryz.prog 15 #[.pointer (some ⟨q, 0, none⟩), .pointer (some ⟨q2, 0, none⟩)] W fun e w' => e = .returned (.bool a) ∧ a2 = a ∧ Below W.heap.size W w' := fun W hW' => by
            refine (same_rows_calls W q q2 _ _ (fun W2 hW2 => walkOf_ref (hO.ref.below (below_step hW' hW2)) hG1 hL1 hN1 (d1 + d2) hdA) (fun W2 hW2 => walkOf_ref (hB.ref.below (below_step hW' hW2)) hG2 hB.lim hB.nok (d1 + d2) hdB)).mono ?_
            rintro e w' ⟨bb, rfl, hbb, hb⟩
            have e1 : bb = a := by
              cases bb <;> cases a <;> simp_all
            have e2 : a2 = a := by
              cases a2 <;> cases a <;> simp_all
            exact ⟨by rw [e1], e2, hb⟩
          have hk2 := fun W (hW' : Below wr.heap.size wr W) => looks_calls W t f g q2 bq way2 r _ (hB.impl.below hW') (hB.ref.below hW') hG2 hB.lim hB.nok
          have HW := Lib.hid hW
          clear hiff hiff2 ha ha2 hB hO hG1 hL1 hN1 hG2 hdw1 hdw2 hdA hdB hW HG1
          go_wp2_with (first
            | (go_at_call 14; with_reducible refine hk1.mono ?_; clear hk1; rintro e w6 ⟨rfl, hb6⟩; have hk3 := hk2 w6 hb6)
            | (go_at_call 14; with_reducible refine hk3.mono ?_; clear hk3; rintro e w7 ⟨rfl, hb7⟩; have hb7' := below_step hb6 hb7; have hs3 := hs w7 hb7')
            | (go_at_call 13; with_reducible refine hs3.mono ?_; clear hs3; rintro e w8 ⟨rfl, hb8⟩; have hb8' := below_step hb7' hb8; have hr3 := hr w8 hb8')
            | (go_at_call 15; with_reducible refine hr3.mono ?_; clear hr3; rintro e w9 ⟨rfl, rfl, hb9⟩; have hb9' := below_step hb8' hb9; have hs4 := hs2 w9 hb9')
            | (go_at_call 13; with_reducible refine hs4.mono ?_; clear hs4; rintro e w10 ⟨rfl, hb10⟩; have hb10' := below_step hb9' hb10; have hr4 := hr w10 hb10')
            | (go_at_call 15; with_reducible refine hr4.mono ?_; clear hr4; rintro e w11 ⟨rfl, -, hb11⟩))
          go_ret
          exact ⟨by simp, below_step HW.out (below_step hb10' hb11)⟩
theorem law_calls (w : World) (A0 A1 : Option Addr) (c0 c1 : Nat) (l0 l1 : List S35) (h0 : Kd.C k35 w A0 l0.length l0) (hc0 : l0.length ≤ c0) (h1 : Kd.C k35 w A1 l1.length l1) (hc1 : l1.length ≤ c1) :
    Calls Tryz.prog 3 #[.slice A0 l0.length c0, .slice A1 l1.length c1] w fun e w' => e = .returned (.bool true) ∧ Below w.heap.size w w' := by
  obtain ⟨b0, hf0, h2⟩ := few_some l0
  obtain ⟨b1, hf1, h3⟩ := few_some l1
  cases b0 with
  | false => exact law_few0 w A0 A1 c0 c1 l0 l1 h0 hc0 hf0
  | true =>
    cases b1 with
    | false => exact law_few1 w A0 A1 c0 c1 l0 l1 h0 hc0 h1 hc1 hf0 hf1
    | true => exact law_plays w A0 A1 c0 c1 l0 l1 h0 hc0 h1 hc1 hf0 hf1 (h2 rfl).1 (h2 rfl).2 (h3 rfl).1 (h3 rfl).2
end Go.Proofs.YtmjhflmkgmfjkaaGreatDoor
namespace Go.Proofs.YtmjhflmkgmfjkaaGreatDoor
open Go.ChangeShapes Go.WideShapes Go.Deep Go.RowKit Go.Proofs.YtmjhflmkgmfjkaaGreatDoorW.PrintWords Go.Proofs.YtmjhflmkgmfjkaaGreatDoorW.PrintMore
open PTreeTwins (S35 z35 k35 k35_mk)
theorem op_fields : Tryz.prog.underlying 35 = some (.struct (Tryz.prog.fieldsOf 35)) := by kernel_rfl
theorem op_fields5 : (Tryz.prog.fieldsOf 35).toList.map (fun f => (f.type, f.offset, Tryz.prog.cellsOf f.type)) = [(3, 0, 1), (9, 1, 1), (9, 2, 1), (33, 3, 1), (3, 4, 1)] := by kernel_rfl
theorem op_cellsOf : Tryz.prog.cellsOf 35 = 5 := by kernel_rfl
theorem field_gen {α : Type} {fs : Array Field} {g : Field → α} {l : List α} (he : fs.toList.map g = l) {j : Nat} {x : α} (h : l[j]? = some x) : ∃ f, fs[j]? = some f ∧ g f = x := by
  rw [← he, List.getElem?_map] at h
  obtain ⟨f, hf, rfl⟩ := Option.map_eq_some_iff.1 h
  rw [Array.getElem?_toList] at hf
  exact ⟨f, hf, rfl⟩
set_option maxRecDepth 100000 in
theorem op_field {j : Nat} {x : TypeId × Nat × Nat} (h : [(3, 0, 1), (9, 1, 1), (9, 2, 1), (33, 3, 1), (3, 4, 1)][j]? = some x) : ∃ f, (Tryz.prog.fieldsOf 35)[j]? = some f ∧ f.type = x.1 ∧ f.offset = x.2.1 ∧ Tryz.prog.cellsOf f.type = x.2.2 := by
  obtain ⟨f, h1, h2⟩ := field_gen op_fields5 h
  subst h2
  exact ⟨f, h1, rfl, rfl, rfl⟩
theorem five {α : Type} {l : List α} (h : l.length = 5) : ∃ a b c d e, l = [a, b, c, d, e] := by
  rcases l with _ | ⟨a, _ | ⟨b, _ | ⟨c, _ | ⟨d, _ | ⟨e, _ | ⟨f, l⟩⟩⟩⟩⟩⟩ <;> simp at h
  exact ⟨a, b, c, d, e, rfl⟩
theorem size_gen {α : Type} {fs : Array Field} {g : Field → α} {l : List α} (he : fs.toList.map g = l) : fs.size = l.length := by
  rw [← he]; simp
section
variable {H : Type} {enc : TypeId × Value → H} {W : World}
theorem op_read {n : Nat} {cs : List Value} {x : DataW H × List MemPlace} (h : DataW.trod enc Tryz.prog W 0 (fun _ => true) true n 35 cs = some x) : ∃ o : S35, k35.K W o cs := by
  obtain ⟨xs, m, rfl, rfl, hlen, hxl, hf⟩ := DataW.trod_struct op_fields h
  rw [op_cellsOf] at hlen
  obtain ⟨v0, v1, v2, v3, v4, rfl⟩ := five hlen
  have hx5 : xs.length = 5 := by rw [hxl, size_gen op_fields5]; rfl
  have hfj : ∀ (j : Nat) (x : TypeId × Nat × Nat), [(3, 0, 1), (9, 1, 1), (9, 2, 1), (33, 3, 1), (3, 4, 1)][j]? = some x → ∃ y, DataW.trod enc Tryz.prog W 0 (fun _ => true) true m x.1 (([v0, v1, v2, v3, v4].drop x.2.1).take x.2.2) = some y := fun j x hj => by
    obtain ⟨f, h1, h2, h3, h4⟩ := op_field hj
    have := hf j f h1
    rw [h4, h3, h2] at this
    have hjl : j < xs.length := by
      have := (List.getElem?_eq_some_iff.1 hj).1
      simp at this
      omega
    rw [List.getElem?_eq_getElem hjl] at this
    exact ⟨_, this⟩
  obtain ⟨_, t0⟩ := hfj 0 _ rfl
  obtain ⟨_, t1⟩ := hfj 1 _ rfl
  obtain ⟨_, t2⟩ := hfj 2 _ rfl
  obtain ⟨_, t3⟩ := hfj 3 _ rfl
  obtain ⟨_, t4⟩ := hfj 4 _ rfl
  simp only [List.drop_zero, List.drop_succ_cons, List.take_succ_cons, List.take_zero] at t0 t1 t2 t3 t4
  obtain ⟨k, e0, _, _⟩ := DataW.trod_int Tryz.underlying3 t0
  obtain ⟨p, e1, _, _⟩ := DataW.trod_string Tryz.underlying9 t1
  obtain ⟨q, e2, _, _⟩ := DataW.trod_string Tryz.underlying9 t2
  obtain ⟨z, e4, _, _⟩ := DataW.trod_int Tryz.underlying3 t4
  cases e0; cases e1; cases e2; cases e4
  obtain ⟨A3, n3, c3, e3, zs, hz⟩ : ∃ A3 n3 c3, v3 = .slice A3 n3 c3 ∧ ∃ zs : List Int, (A3 = none ∧ n3 = 0 ∧ c3 = 0 ∧ zs = []) ∨ ∃ x, A3 = some x ∧ n3 ≤ c3 ∧ c3 ≤ maxLen ∧ zs.length = c3 ∧ (∀ i, i < zs.length → W.cell? (x.add i) = some (.int .u8 (zs.getD i 0))) ∧ ∀ n ∈ zs, (Lit.int .u8 n).wf = true := by
    rcases open_ints Tryz.underlying33 Tryz.underlying5 (by kernel_rfl) t3 with ⟨hcs, _⟩ | ⟨x, l, c, zs, hcs, _, hl, hm, hz, _, hcell, hwz⟩
    · cases hcs
      exact ⟨none, 0, 0, rfl, [], .inl ⟨rfl, rfl, rfl, rfl⟩⟩
    · cases hcs
      exact ⟨_, _, _, rfl, zs, .inr ⟨_, rfl, hl, hm, by simpa using hz, hcell, hwz⟩⟩
  subst e3
  obtain ⟨l, rfl, hr, hm, hw, hc⟩ := ReadsInt.ofRowC hz
  exact ⟨⟨k, p, q, l, z⟩, k35_mk W _ hc (Kd.C_of_reads (d := (0 : Int)) (h1 := fun _ => rfl) hr)⟩
open Classical in
theorem ops_read {a : Option Addr} {len cap : Nat} {d : DataW H} {p : List MemPlace} (h : DataW.Trod enc Tryz.prog W 0 (fun _ => true) true 22 (.slice a len cap) d p) : ∃ l : List S35, len = l.length ∧ l.length ≤ cap ∧ Kd.C k35 W a l.length l := by
  obtain ⟨fuel, hf⟩ := h
  rcases open_slice Tryz.underlying22 hf with ⟨hcs, _⟩ | ⟨x, len', cap', m, n, D, Pl, hcs, _, hl, hm, hmm, _, hi⟩
  · simp [Value.cells] at hcs
    obtain ⟨rfl, rfl, rfl⟩ := hcs
    exact ⟨[], rfl, Nat.le_refl _, rfl, Nat.zero_le _, fun h => absurd h (by decide)⟩
  · simp [Value.cells] at hcs
    obtain ⟨rfl, rfl, rfl⟩ := hcs
    have hm' : m = cap := by simpa using hmm
    subst hm'
    have each : ∀ i, i < len → ∃ (o : S35) (cs : List Value), cs.length = 5 ∧ k35.K W o cs ∧ ∀ j u, cs[j]? = some u → W.cell? (x.add (i * 5 + j)) = some u := fun i hil => by
      obtain ⟨cs', hc, ht⟩ := hi i (by omega)
      rw [op_cellsOf] at hc
      obtain ⟨_, hcl, hat⟩ := World.cells?_some hc
      obtain ⟨o, ho⟩ := op_read ht
      refine ⟨o, cs', hcl, ho, fun j u hu => ?_⟩
      have hjl : j < 5 := by have := (List.getElem?_eq_some_iff.1 hu).1; omega
      have := hat j hjl
      rw [Deep.add_add] at this
      rw [this, hu]
    refine ⟨(List.range len).map fun i => if h : i < len then (each i h).choose else z35, by simp, by simpa using hl, by simp, ?_, fun _ => ⟨x, rfl, fun j o hj => ?_⟩⟩
    · have : maxLen ≤ 9223372036854775807 := by decide
      simp; omega
    · rw [List.getElem?_map] at hj
      obtain ⟨i, hi', rfl⟩ := Option.map_eq_some_iff.1 hj
      obtain ⟨hil, rfl⟩ := List.getElem?_eq_some_iff.1 hi'
      simp at hil
      have hs := (each j hil).choose_spec
      obtain ⟨cs, h1, h2, h3⟩ := hs
      simp only [List.getElem_range, hil, dif_pos]
      exact ⟨cs, h1, h2, h3⟩
end
end Go.Proofs.YtmjhflmkgmfjkaaGreatDoor
