/- A part of the proof: L2, L3. -/
import Derived.Test.YtmjhflmkgmfjkaaGreatDoorLa
import Derived.Test.YtmjhflmkgmfjkaaGreatDoorNe
import Derived.Lib.SlBytesConst
set_option linter.unusedVariables false
set_option linter.unusedSimpArgs false
namespace Go.Proofs.YtmjhflmkgmfjkaaGreatDoor
open Go.RowKit Go.Proofs.YtmjhflmkgmfjkaaGreatDoorW.PrintWords Go.Proofs.YtmjhflmkgmfjkaaGreatDoorW.PrintMore
open PTreeTwins (S58 S106 S35 S76 S78 z58 z106 z78 k58 k106 k78)
theorem walkOf_ref {w : World} {q b : Nat} {r : RS} (h : RefAt w q b r) {way : Nat → List ByteArray} (hG : Good r.L way) {N : Nat} (hL : Lim r N) (hN : NOk r.L) (d : Nat) (hd : ∀ j, Live r.L j → (way j).length < d) : WalkOf q (rowsN d r.L 0 ByteArray.empty) w :=
  rtreeWalk_calls w q b r h hG hL (fun i _ e he => by have := nameOk_size ((hN i).named he); omega) (fun i hi => by have := way_short hG hi; have := hL.things; have := hL.small; omega) d hd
set_option maxRecDepth 100000 in
set_option maxHeartbeats 1000000 in
theorem looks_calls (w : World) (t : Nat) (f g : Nat → Nat) (q b : Nat) (way : Nat → List ByteArray) (r : RS) (N : Nat) (hI : ImplAt w t f g r) (hR : RefAt w q b r) (hG : Good r.L way) (hL : Lim r N) (hN : NOk r.L) :
    Calls Tryz.prog 14 #[.pointer (some ⟨t, 0, none⟩), .pointer (some ⟨q, 0, none⟩)] w fun e w' => e = .returned (.bool true) ∧ Below w.heap.size w w' := by
  obtain ⟨d, hd⟩ := way_max r.L way
  have hfree := free_calls w t f g r hI
  have hwalk := fun W (hW : Below w.heap.size w W) => walkOf_ref (hR.below hW) hG hL hN d hd
  unfold WalkOf at hwalk
  obtain ⟨X, hX⟩ : ∃ X, X = rowsN d r.L 0 ByteArray.empty := ⟨_, rfl⟩
  rw [← hX] at hwalk
  have hrows := fun W A c (hW : Below w.heap.size w W) hC hc hl => lawRows_calls W t f g way r N (hI.below hW) hG hL hN d hd A c X hX hC hc hl
  obtain ⟨cap, hbox, hrow⟩ := hR.row
  obtain ⟨c0, c1, c2⟩ := hbox.cells
  have hqlt := hbox.lt
  clear hX hrow hbox
  go_enter Tryz.func14, Tryz.ntmps14
  go_wp2_with (first
    | (go_at_call 18; with_reducible refine hfree.mono ?_; rintro e w1 ⟨rfl, nq, rfl⟩
       have e1 : (w.drewN nq).cell? ⟨q, 1, none⟩ = some (.int .i64 r.bl) := c1
       have e2 : (w.drewN nq).cell? ⟨q, 2, none⟩ = some (.int .i64 r.ino) := c2
       have hw2 := hwalk _ (pw_below_drewN (Below.refl _ _) nq))
    | (go_at_call 29; with_reducible refine hw2.mono ?_; rintro e w2 ⟨A, c, rfl, hc, hC, hl, hb2⟩
       have hb3 : Below w.heap.size w w2 := below_step (pw_below_drewN (Below.refl _ _) nq) hb2
       have hr2 := hrows w2 A c hb3 hC hc hl)
    | (go_at_call 28; with_reducible refine hr2.mono ?_; rintro e w3 ⟨rfl, hb4⟩))
  go_ret
  exact ⟨rfl, below_step hb3 hb4⟩
end Go.Proofs.YtmjhflmkgmfjkaaGreatDoor
namespace Go.Proofs.YtmjhflmkgmfjkaaGreatDoor
open Go.RowKit Go.Proofs.YtmjhflmkgmfjkaaGreatDoorW.PrintWords Go.Proofs.YtmjhflmkgmfjkaaGreatDoorW.PrintMore
open PTreeTwins (S58 S106 S35 S76 S78 z58 z106 z78 k58 k106 k78)
def pA : ByteArray := ⟨#[47, 97]⟩
def pB : ByteArray := ⟨#[47, 98]⟩
def pR : ByteArray := ⟨#[47]⟩
def ko1 : S35 := ⟨1, pA, ⟨#[]⟩, [], 0⟩
def ko2 : S35 := ⟨3, pA, ⟨#[]⟩, [120, 121], 0⟩
def ko3 : S35 := ⟨1, pB, ⟨#[]⟩, [], 0⟩
def ko4 : S35 := ⟨7, pA, pB, [], 0⟩
def kr0 : RS := newRS 10 10
def kr1 : RS := (rDo ko1 kr0).1
def kr2 : RS := (rDo ko2 kr1).1
def kr3 : RS := (rDo ko3 kr2).1
def kr4 : RS := (rDo ko4 kr3).1
theorem k_1 : (rDo ko1 kr0).2 = 0 := by kernel_rfl
theorem k_2 : (rDo ko2 kr1).2 = 0 := by kernel_rfl
theorem k_3 : (rDo ko3 kr2).2 = 0 := by kernel_rfl
theorem k_4 : (rDo ko4 kr3).2 = 0 := by kernel_rfl
theorem k_read : readOf kr4.L pB = ([120, 121], 0) := by kernel_rfl
theorem k_look : lookOf kr4.L pR = (some 0, 0) := by kernel_rfl
theorem k_len : (named (at_ kr4.L 0).f3).length = 1 := by kernel_rfl
theorem k_dir : (at_ kr4.L 0).f1 = true := by kernel_rfl
theorem k_bl : kr4.bl = 8 := by kernel_rfl
theorem k_ino : kr4.ino = 8 := by kernel_rfl
/-- a tree of the implementation in blocks from B on -/
structure Mine (B : Nat) (w : World) (t : Nat) (f g : Nat → Nat) (r : RS) (N : Nat) : Prop where
  impl : ImplAt w t f g r
  good : ∃ way, Good r.L way
  lim : Lim r N
  own : ∀ k, Own t f g r.L k → B ≤ k
theorem Mine.did {B : Nat} {w w2 : World} {t : Nat} {f g : Nat → Nat} {r : RS} {N : Nat} (h : Mine B w t f g r N) (hB : B ≤ w.heap.size) (hN : N + 1 ≤ 2000) (o : S35) (hd : Did w t f g r (rDo o r).1 w2) : ∃ f' g', Mine B w2 t f' g' (rDo o r).1 (N + 1) ∧ Below B w w2 := by
  obtain ⟨f', g', hI, hk, hown⟩ := hd
  obtain ⟨way, hG⟩ := h.good
  refine ⟨f', g', ⟨hI, ?_, ?_, fun k hk => ?_⟩, hk.below hB h.own⟩
  · rw [← iPlan_eq hG h.lim.bl0]; exact good_plan hG o
  · rw [← iPlan_eq hG h.lim.bl0]; exact lim_plan hG h.lim hN o
  · rcases hown k hk with h3 | h3
    · exact h.own k h3
    · omega
theorem Mine.below_ {B : Nat} {w w2 : World} {t : Nat} {f g : Nat → Nat} {r : RS} {N : Nat} (h : Mine B w t f g r N) (hb : Below w.heap.size w w2) : Mine B w2 t f g r N := ⟨h.impl.below hb, h.good, h.lim, h.own⟩
/-- an act that is not refused -/
theorem Mine.act {B : Nat} {w : World} {t : Nat} {f g : Nat → Nat} {r : RS} {N : Nat} (h : Mine B w t f g r N) (hB : B ≤ w.heap.size) (hN : N + 1 ≤ 2000) (o : S35) (h0 : (rDo o r).2 = 0) (Ad : Option Addr) (nd cd : Nat) (hd : kB.C w Ad nd o.f3) :
    Calls Tryz.prog 8 #[.pointer (some ⟨t, 0, none⟩), opVal o.f0 o.f1 o.f2 Ad nd cd o.f4] w fun e w' => e = .returned (.int .i64 0) ∧ ∃ f' g', Mine B w' t f' g' (rDo o r).1 (N + 1) ∧ Below B w w' := by
  obtain ⟨way, hG⟩ := h.good
  refine (do_calls w t f g way r N h.impl hG h.lim o Ad nd cd hd).mono ?_
  rintro e w2 ⟨rfl, hdid, _⟩
  rw [iPlan_eq hG h.lim.bl0] at hdid ⊢
  exact ⟨by rw [h0], h.did hB hN o (hdid h0)⟩
theorem kB_empty (W : World) : kB.C W none 0 [] := (Kd.R_reads' (Kd.R_nil kB 5 W 0 (fun _ => True))).2.2
theorem kB_xy (W : World) : kB.C (W.alloc (.cells #[.int .u8 120, .int .u8 121] 5 (2, 3))) (some ⟨W.heap.size, 0, none⟩) 2 [120, 121] := by
  have hz : (W.alloc (.cells #[.int .u8 120, .int .u8 121] 5 (2, 3))).heap[W.heap.size]? = some (.cells #[.int .u8 120, .int .u8 121] 5 (2, 3)) := heap_alloc_new W _
  generalize W.alloc (.cells #[.int .u8 120, .int .u8 121] 5 (2, 3)) = W' at *
  refine Kd.C_of_reads (enc := Value.int .u8) (d := (0 : Int)) (h1 := fun _ => rfl) ⟨rfl, by decide, fun _ => ⟨_, rfl, fun j hj => ?_⟩⟩
  have : j = 0 ∨ j = 1 := by omega
  rcases this with rfl | rfl <;> simp [World.cell?, Addr.add, hz]
def KActs (t : Nat) (w W : World) (r : RS) (N : Nat) (v : Value) : Prop := Calls Tryz.prog 8 #[.pointer (some ⟨t, 0, none⟩), v] W fun e w' => e = .returned (.int .i64 0) ∧ ∃ f' g', Mine w.heap.size w' t f' g' r N ∧ Below w.heap.size w w'
theorem kacts {w W : World} {t : Nat} {f g : Nat → Nat} {r : RS} {N : Nat} (h : Mine w.heap.size W t f g r N) (hb : Below w.heap.size w W) (hN : N + 1 ≤ 2000) (o : S35) (h0 : (rDo o r).2 = 0) (Ad : Option Addr) (nd cd : Nat) (hd : kB.C W Ad nd o.f3) : KActs t w W (rDo o r).1 (N + 1) (opVal o.f0 o.f1 o.f2 Ad nd cd o.f4) :=
  (h.act hb.size hN o h0 Ad nd cd hd).mono fun e w' ⟨h1, f', g', h2, h3⟩ => ⟨h1, f', g', h2, hb.trans h3⟩
set_option maxRecDepth 100000 in
set_option maxHeartbeats 1000000 in
theorem known_calls (w : World) : Calls Tryz.prog 4 #[] w fun e w' => e = .returned (.bool true) ∧ Below w.heap.size w w' := by
  have hcc := fun (w : World) (C : Array Value) (n c : Nat) => Lib.run_convert_bytes_const (P := Tryz.prog) w 33 5 C n c Tryz.underlying33 Tryz.underlying5
  have hnew := new_calls 10 10 w (by decide) (by decide) (by decide) (by decide)
  go_enter Tryz.func4, Tryz.ntmps4
  go_wp2_with (first
    | (go_at_call 6; with_reducible refine hnew.mono ?_; clear hnew; rintro e w1 ⟨t, f0, g0, rfl, hb1, hI1, ho1⟩
       have M0 : Mine w.heap.size w1 t f0 g0 kr0 0 := ⟨hI1, ⟨_, new_good 10 10⟩, new_lim 10 10 (by decide) (by decide) (by decide) (by decide), ho1⟩
       have a1 : KActs t w w1 kr1 1 (.agg #[.int .i64 1, .string ⟨#[47, 97]⟩, .string ⟨#[]⟩, .slice none 0 0, .int .i64 0]) := kacts M0 hb1 (by decide) ko1 k_1 none 0 0 (kB_empty _)
       unfold KActs at a1
       clear hI1 ho1 M0)
    | (go_at_call 8; with_reducible refine a1.mono ?_; clear a1; rintro e w2 ⟨rfl, f1, g1, M1, hb2⟩
       have a2 : KActs t w (w2.alloc (.cells #[.int .u8 120, .int .u8 121] 5 (2, 3))) kr2 2 (.agg #[.int .i64 3, .string ⟨#[47, 97]⟩, .string ⟨#[]⟩, .slice (some ⟨w2.heap.size, 0, none⟩) 2 2, .int .i64 0]) := kacts (M1.below_ ((Below.refl _ w2).alloc (Nat.le_refl _) _)) (below_alloc hb2 _) (by decide) ko2 k_2 (some ⟨w2.heap.size, 0, none⟩) 2 2 (kB_xy _)
       unfold KActs at a2
       clear M1 hb1)
    | (go_at_call 8; with_reducible refine a2.mono ?_; clear a2; rintro e w3 ⟨rfl, f2, g2, M2, hb3⟩
       have a3 : KActs t w w3 kr3 3 (.agg #[.int .i64 1, .string ⟨#[47, 98]⟩, .string ⟨#[]⟩, .slice none 0 0, .int .i64 0]) := kacts M2 hb3 (by decide) ko3 k_3 none 0 0 (kB_empty _)
       unfold KActs at a3
       clear M2 hb2)
    | (go_at_call 8; with_reducible refine a3.mono ?_; clear a3; rintro e w4 ⟨rfl, f3, g3, M3, hb4⟩
       have a4 : KActs t w w4 kr4 4 (.agg #[.int .i64 7, .string ⟨#[47, 97]⟩, .string ⟨#[47, 98]⟩, .slice none 0 0, .int .i64 0]) := kacts M3 hb4 (by decide) ko4 k_4 none 0 0 (kB_empty _)
       unfold KActs at a4
       clear M3 hb3)
    | (go_at_call 8; with_reducible refine a4.mono ?_; clear a4; rintro e w5 ⟨rfl, f4, g4, M4, hb5⟩
       obtain ⟨way, hG⟩ := M4.good
       have a5 : Calls Tryz.prog 16 #[.pointer (some ⟨t, 0, none⟩), .string ⟨#[47, 98]⟩] w5 fun e w' => ∃ A c, e = .returned (.tuple #[.slice A 2 c, .int .i64 0]) ∧ kB.C w' A 2 [120, 121] ∧ Below w5.heap.size w5 w' := by
         refine (read_calls w5 t f4 g4 way kr4 M4.impl hG pB M4.lim.data).mono ?_
         rintro e w' ⟨v, rfl, hv, hb⟩
         rw [k_read] at hv ⊢
         obtain ⟨A, c, rfl, _, hC⟩ := Kd.R_reads hv
         exact ⟨A, c, rfl, hC, hb⟩
       clear hb4)
    | (go_at_call 16; with_reducible refine a5.mono ?_; clear a5; rintro e w6 ⟨A, c, rfl, hC, hb6⟩
       have a6 : Calls Tryz.prog 17 #[.pointer (some ⟨t, 0, none⟩), .string ⟨#[47]⟩] w6 fun e w' => ∃ A c, e = .returned (.tuple #[.slice A 1 c, .int .i64 0]) ∧ Below w6.heap.size w6 w' := by
         have := list_calls w6 t f4 g4 way kr4 (M4.impl.below hb6) hG pR 0 k_look k_dir (by rw [k_len]; decide) (fun e he => by
           have hall : ∀ e ∈ named (at_ kr4.L 0).f3, e.f0.size ≤ 100000 := by decide +kernel
           exact hall e he)
         rw [k_len] at this
         exact this)
    | (go_at_call 17; with_reducible refine a6.mono ?_; clear a6; rintro e w7 ⟨A2, c2, rfl, hb7⟩
       have a7 : Calls Tryz.prog 18 #[.pointer (some ⟨t, 0, none⟩)] w7 fun e w' => e = .returned (.tuple #[.int .i64 8, .int .i64 8]) ∧ ∃ n, w' = w7.drewN n := by
         have := free_calls w7 t f4 g4 kr4 ((M4.impl.below hb6).below hb7)
         rw [k_bl, k_ino] at this
         exact this)
    | (go_at_call 18; with_reducible refine a7.mono ?_; clear a7; rintro e w8 ⟨rfl, n8, rfl⟩
       have hcv : (convert 33 9 (.slice A 2 c)).run Tryz.prog (w7.drewN n8) = .ok (.string ⟨#[120, 121]⟩) (w7.drewN n8) := Kd.C_string (xs := [120, 121]) Tryz.underlying33 Tryz.underlying5 Tryz.underlying9 (Kd.C_drewN (Kd.C_below hC hb7) n8)))
  go_ret
  exact ⟨rfl, pw_below_drewN (below_step (below_step hb5 hb6) hb7) _⟩
end Go.Proofs.YtmjhflmkgmfjkaaGreatDoor
