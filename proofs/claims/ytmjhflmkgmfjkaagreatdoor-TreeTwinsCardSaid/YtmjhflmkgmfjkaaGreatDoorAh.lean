/- A part of the proof: V, V7, V2, X1. -/
import Derived.Test.YtmjhflmkgmfjkaaGreatDoorAf
import Derived.Test.YtmjhflmkgmfjkaaGreatDoorAg
import Derived.Test.YtmjhflmkgmfjkaaGreatDoorAe
set_option linter.unusedVariables false
set_option linter.unusedSimpArgs false
namespace Go.Proofs.YtmjhflmkgmfjkaaGreatDoor
open Go.RowKit Go.Proofs.YtmjhflmkgmfjkaaGreatDoorW.PrintWords Go.Proofs.YtmjhflmkgmfjkaaGreatDoorW.PrintMore
open PTreeTwins (S58 S106 S35 z58 z106)
def opVal (k : Int) (p q : ByteArray) (A : Option Addr) (n c : Nat) (i : Int) : Value := .agg #[.int .i64 k, .string p, .string q, .slice A n c, .int .i64 i]
/-- what path.Split is asked -/
abbrev SplitC (p : ByteArray) (l : List ByteArray) (e0 : Int) : Prop := ∀ W : World, Calls Tryz.prog 35 #[.string p] W fun e w' => ∃ A c, e = .returned (.tuple #[.slice A l.length c, .int .i64 e0]) ∧ l.length ≤ c ∧ Kd.C Kd.string w' A l.length l ∧ Below W.heap.size W w'
theorem splitC_of {p : ByteArray} {l : List ByteArray} {e0 : Int} (h : splitP p = (l, e0)) : SplitC p l e0 := fun W => by
  refine (split_calls p W).mono (fun e w' h2 => ?_)
  unfold SplitPost at h2
  rw [h] at h2
  exact h2
/-- what find is asked -/
def FindC (w : World) (t : Nat) (l : List ByteArray) (p1 : Option Addr) (nm : ByteArray) (p2 : Option Addr) (e0 : Int) : Prop := ∀ (W : World) (A : Option Addr) (c : Nat), Below w.heap.size w W → Kd.C Kd.string W A l.length l → l.length ≤ c →
  Calls Tryz.prog 36 #[.pointer (some ⟨t, 0, none⟩), .slice A l.length c] W fun e w' => (∃ lv, e = .returned (.tuple #[.agg #[.pointer p1, .string nm, .pointer p2, lv], .int .i64 e0]) ∧ ((e0 = 0 → lv = .slice A l.length c) ∧ (e0 ≠ 0 → lv = .slice none 0 0))) ∧ Below W.heap.size W w'
theorem findC_of {w : World} {t : Nat} {f g : Nat → Nat} {way : Nat → List ByteArray} {r : RS} (hI : ImplAt w t f g r) (hG : Good r.L way) {l : List ByteArray} {s : Spot} {e0 : Int} (h : findL r.L l ⟨none, ByteArray.empty, some 0⟩ = (s, e0)) : FindC w t l (s.up.map fun i => ⟨f i, 0, none⟩) s.name (s.n.map fun i => ⟨f i, 0, none⟩) e0 := fun W A c hW hC hc => by
  refine (find_calls W t f g way r (hI.below hW) hG A c l hC hc).mono (fun e w' h2 => ?_)
  obtain ⟨h3, h4⟩ := h2
  rw [h] at h3
  refine ⟨⟨_, h3, fun e => if_pos e, fun e => if_neg e⟩, h4⟩
/-- the act's box -/
theorem op_cells {w W : World} {k : Int} {p q : ByteArray} {A : Option Addr} {n c : Nat} {i : Int} (hb : Below (w.heap.size + 1) (w.alloc (.cells #[.int .i64 k, .string p, .string q, .slice A n c, .int .i64 i] 35)) W) :
    W.cell? ⟨w.heap.size, 0, none⟩ = some (.int .i64 k) ∧ W.cell? ⟨w.heap.size, 1, none⟩ = some (.string p) ∧ W.cell? ⟨w.heap.size, 2, none⟩ = some (.string q) ∧ W.cell? ⟨w.heap.size, 3, none⟩ = some (.slice A n c) ∧ W.cell? ⟨w.heap.size, 4, none⟩ = some (.int .i64 i) ∧ w.heap.size < W.heap.size ∧ ¬ w.heap.size = W.heap.size ∧ Hid (Below w.heap.size w W) := by
  have h := heap_alloc_new w (.cells #[.int .i64 k, .string p, .string q, .slice A n c, .int .i64 i] 35)
  have hz := hb.size
  simp only [World.size_alloc] at hz
  have hh := (hb.block w.heap.size (by omega)).trans h
  refine ⟨?_, ?_, ?_, ?_, ?_, by omega, by omega, Lib.hid (((Below.refl _ w).alloc (Nat.le_refl _) _).trans (hb.mono (by omega)))⟩ <;> simp [World.cell?, hh]
set_option maxHeartbeats 2000000 in
set_option maxRecDepth 100000 in
theorem plan_low (w : World) (t : Nat) (f g : Nat → Nat) (r : RS) (res : RS × Int) (p q : ByteArray) (Ad : Option Addr) (nd cd : Nat) (i : Int) (k : Int) (hk : k < 1) (hres : res.2 = 1) :
    Calls Tryz.prog 20 #[.pointer (some ⟨t, 0, none⟩), opVal k p q Ad nd cd i] w (PlanPost w t f g r res) := by
  have d1 : decide (k < 1) = true := decide_eq_true hk
  have HR := Lib.hid hres
  clear hres hk
  unfold opVal
  go_enter Tryz.func20, Tryz.ntmps20
  go_wp2
  go_ret2
  exact PlanPost.bad HR.out (by decide) ((Below.refl _ w).alloc (Nat.le_refl _) _)
set_option maxHeartbeats 2000000 in
set_option maxRecDepth 100000 in
theorem plan_high (w : World) (t : Nat) (f g : Nat → Nat) (r : RS) (res : RS × Int) (p q : ByteArray) (Ad : Option Addr) (nd cd : Nat) (i : Int) (k : Int) (hk0 : ¬ k < 1) (hk : 7 < k) (hres : res.2 = 1) :
    Calls Tryz.prog 20 #[.pointer (some ⟨t, 0, none⟩), opVal k p q Ad nd cd i] w (PlanPost w t f g r res) := by
  have d1 : decide (k < 1) = false := decide_eq_false hk0
  have d2 : decide (7 < k) = true := decide_eq_true hk
  have HR := Lib.hid hres
  clear hres hk hk0
  unfold opVal
  go_enter Tryz.func20, Tryz.ntmps20
  go_wp2
  go_ret2
  exact PlanPost.bad HR.out (by decide) ((Below.refl _ w).alloc (Nat.le_refl _) _)
set_option maxHeartbeats 2000000 in
set_option maxRecDepth 100000 in
theorem plan_split (w : World) (t : Nat) (f g : Nat → Nat) (r : RS) (res : RS × Int) (p q : ByteArray) (Ad : Option Addr) (nd cd : Nat) (i : Int) (k : Int) (hk0 : ¬ k < 1) (hk1 : ¬ 7 < k) (l : List ByteArray) (e0 : Int) (hsp : SplitC p l e0) (he : e0 ≠ 0) (hres : res.2 = e0) :
    Calls Tryz.prog 20 #[.pointer (some ⟨t, 0, none⟩), opVal k p q Ad nd cd i] w (PlanPost w t f g r res) := by
  have d1 : decide (k < 1) = false := decide_eq_false hk0
  have d2 : decide (7 < k) = false := decide_eq_false hk1
  have d3 : (e0 != 0) = true := by simpa using he
  have HR := Lib.hid hres
  have HE := Lib.hid he
  have HS := Lib.hid hsp
  clear hres he hsp hk0 hk1
  unfold opVal
  go_enter Tryz.func20, Tryz.ntmps20
  go_wp2_with (go_at_call 35; refine (HS.out _).mono ?_; rintro e w2 ⟨A2, c2, rfl, hc2, hC2, hb2⟩; obtain ⟨y0, y1, y2, y3, y4, y5, y6, y7⟩ := op_cells (w := w) (by simpa using hb2))
  go_ret2
  exact PlanPost.bad HR.out HE.out y7.out
set_option maxHeartbeats 2000000 in
set_option maxRecDepth 100000 in
theorem plan_find (w : World) (t : Nat) (f g : Nat → Nat) (r : RS) (res : RS × Int) (p q : ByteArray) (Ad : Option Addr) (nd cd : Nat) (i : Int) (k : Int) (hk0 : ¬ k < 1) (hk1 : ¬ 7 < k) (hk7 : k ≠ 7) (l : List ByteArray) (hsp : SplitC p l 0) (p1 : Option Addr) (nm : ByteArray) (p2 : Option Addr) (e0 : Int) (hf : FindC w t l p1 nm p2 e0) (he : e0 ≠ 0) (hres : res.2 = e0) :
    Calls Tryz.prog 20 #[.pointer (some ⟨t, 0, none⟩), opVal k p q Ad nd cd i] w (PlanPost w t f g r res) := by
  have d1 : decide (k < 1) = false := decide_eq_false hk0
  have d2 : decide (7 < k) = false := decide_eq_false hk1
  have d3 : (e0 != 0) = true := by simpa using he
  have d4 : (k == 7) = false := by simpa using hk7
  have HR := Lib.hid hres
  have HE := Lib.hid he
  have HS := Lib.hid hsp
  have HF := Lib.hid hf
  clear hres he hsp hf hk0 hk1 hk7
  unfold opVal
  go_enter Tryz.func20, Tryz.ntmps20
  go_wp2_with (first
    | (go_at_call 35; refine (HS.out _).mono ?_; rintro e w2 ⟨A2, c2, rfl, hc2, hC2, hb2⟩; obtain ⟨y0, y1, y2, y3, y4, y5, y6, y7⟩ := op_cells (w := w) (by simpa using hb2))
    | (go_at_call 36; refine (HF.out _ A2 c2 y7.out hC2 hc2).mono ?_; rintro e w3 ⟨⟨lv, rfl, hlv0, hlv1⟩, hb3⟩; have hlv := hlv1 HE.out; clear hlv0 hlv1; subst hlv))
  go_ret2
  exact PlanPost.bad HR.out HE.out ((y7.out.trans (hb3.mono y7.out.size)).alloc (Nat.le_trans y7.out.size hb3.size) _)
set_option maxHeartbeats 2000000 in
set_option maxRecDepth 100000 in
theorem plan_k1 (w : World) (t : Nat) (f g : Nat → Nat) (r : RS) (res : RS × Int) (p q : ByteArray) (Ad : Option Addr) (nd cd : Nat) (i : Int) (l : List ByteArray) (hsp : SplitC p l 0) (p1 : Option Addr) (nm : ByteArray) (p2 : Option Addr) (hf : FindC w t l p1 nm p2 0)
    (ha : ∀ W A c, Below w.heap.size w W → Kd.C Kd.string W A l.length l → l.length ≤ c → Calls Tryz.prog 37 #[.pointer (some ⟨t, 0, none⟩), .agg #[.pointer p1, .string nm, .pointer p2, .slice A l.length c], .bool false] W (PlanPost W t f g r res)) :
    Calls Tryz.prog 20 #[.pointer (some ⟨t, 0, none⟩), opVal 1 p q Ad nd cd i] w (PlanPost w t f g r res) := by
  have HS := Lib.hid hsp
  have HF := Lib.hid hf
  have HA := Lib.hid ha
  clear hsp hf ha
  unfold opVal
  go_enter Tryz.func20, Tryz.ntmps20
  go_wp2_with (first
    | (go_at_call 35; refine (HS.out _).mono ?_; rintro e w2 ⟨A2, c2, rfl, hc2, hC2, hb2⟩; obtain ⟨y0, y1, y2, y3, y4, y5, y6, y7⟩ := op_cells (w := w) (by simpa using hb2))
    | (go_at_call 36; refine (HF.out _ A2 c2 y7.out hC2 hc2).mono ?_; rintro e w3 ⟨⟨lv, rfl, hlv0, hlv1⟩, hb3⟩; have hlv := hlv0 rfl; clear hlv0 hlv1; subst hlv; obtain ⟨z0, z1, z2, z3, z4, z5, z6, z7⟩ := op_cells (w := w) ((by simpa using hb2 : Below (w.heap.size + 1) (w.alloc (.cells #[.int .i64 1, .string p, .string q, .slice Ad nd cd, .int .i64 i] 35)) w2).trans (hb3.mono (by omega))))
    | (go_at_call 37; refine (HA.out _ A2 c2 (by exact z7.out.alloc z7.out.size _) (Kd.C_below (Kd.C_below hC2 hb3) ((Below.refl _ _).alloc (Nat.le_refl _) _)) hc2).mono ?_; rintro e w4 ⟨cl, rfl, hb4, hacts⟩))
  go_ret2
  exact ⟨_, rfl, (z7.out.alloc z7.out.size _).trans (hb4.mono (z7.out.alloc z7.out.size _).size), hacts⟩
set_option maxHeartbeats 2000000 in
set_option maxRecDepth 100000 in
theorem plan_k2 (w : World) (t : Nat) (f g : Nat → Nat) (r : RS) (res : RS × Int) (p q : ByteArray) (Ad : Option Addr) (nd cd : Nat) (i : Int) (l : List ByteArray) (hsp : SplitC p l 0) (p1 : Option Addr) (nm : ByteArray) (p2 : Option Addr) (hf : FindC w t l p1 nm p2 0)
    (ha : ∀ W A c, Below w.heap.size w W → Kd.C Kd.string W A l.length l → l.length ≤ c → Calls Tryz.prog 37 #[.pointer (some ⟨t, 0, none⟩), .agg #[.pointer p1, .string nm, .pointer p2, .slice A l.length c], .bool true] W (PlanPost W t f g r res)) :
    Calls Tryz.prog 20 #[.pointer (some ⟨t, 0, none⟩), opVal 2 p q Ad nd cd i] w (PlanPost w t f g r res) := by
  have HS := Lib.hid hsp
  have HF := Lib.hid hf
  have HA := Lib.hid ha
  clear hsp hf ha
  unfold opVal
  go_enter Tryz.func20, Tryz.ntmps20
  go_wp2_with (first
    | (go_at_call 35; refine (HS.out _).mono ?_; rintro e w2 ⟨A2, c2, rfl, hc2, hC2, hb2⟩; obtain ⟨y0, y1, y2, y3, y4, y5, y6, y7⟩ := op_cells (w := w) (by simpa using hb2))
    | (go_at_call 36; refine (HF.out _ A2 c2 y7.out hC2 hc2).mono ?_; rintro e w3 ⟨⟨lv, rfl, hlv0, hlv1⟩, hb3⟩; have hlv := hlv0 rfl; clear hlv0 hlv1; subst hlv; obtain ⟨z0, z1, z2, z3, z4, z5, z6, z7⟩ := op_cells (w := w) ((by simpa using hb2 : Below (w.heap.size + 1) (w.alloc (.cells #[.int .i64 2, .string p, .string q, .slice Ad nd cd, .int .i64 i] 35)) w2).trans (hb3.mono (by omega))))
    | (go_at_call 37; refine (HA.out _ A2 c2 (by exact z7.out.alloc z7.out.size _) (Kd.C_below (Kd.C_below hC2 hb3) ((Below.refl _ _).alloc (Nat.le_refl _) _)) hc2).mono ?_; rintro e w4 ⟨cl, rfl, hb4, hacts⟩))
  go_ret2
  exact ⟨_, rfl, (z7.out.alloc z7.out.size _).trans (hb4.mono (z7.out.alloc z7.out.size _).size), hacts⟩
set_option maxHeartbeats 2000000 in
set_option maxRecDepth 100000 in
theorem plan_k3 (w : World) (t : Nat) (f g : Nat → Nat) (r : RS) (res : RS × Int) (p q : ByteArray) (Ad : Option Addr) (nd cd : Nat) (i : Int) (l : List ByteArray) (hsp : SplitC p l 0) (p1 : Option Addr) (nm : ByteArray) (p2 : Option Addr) (hf : FindC w t l p1 nm p2 0)
    (ha : ∀ W A c, Below w.heap.size w W → Kd.C Kd.string W A l.length l → l.length ≤ c → Calls Tryz.prog 38 #[.pointer (some ⟨t, 0, none⟩), .pointer p2, .slice Ad nd cd] W (PlanPost W t f g r res)) :
    Calls Tryz.prog 20 #[.pointer (some ⟨t, 0, none⟩), opVal 3 p q Ad nd cd i] w (PlanPost w t f g r res) := by
  have HS := Lib.hid hsp
  have HF := Lib.hid hf
  have HA := Lib.hid ha
  clear hsp hf ha
  unfold opVal
  go_enter Tryz.func20, Tryz.ntmps20
  go_wp2_with (first
    | (go_at_call 35; refine (HS.out _).mono ?_; rintro e w2 ⟨A2, c2, rfl, hc2, hC2, hb2⟩; obtain ⟨y0, y1, y2, y3, y4, y5, y6, y7⟩ := op_cells (w := w) (by simpa using hb2))
    | (go_at_call 36; refine (HF.out _ A2 c2 y7.out hC2 hc2).mono ?_; rintro e w3 ⟨⟨lv, rfl, hlv0, hlv1⟩, hb3⟩; have hlv := hlv0 rfl; clear hlv0 hlv1; subst hlv; obtain ⟨z0, z1, z2, z3, z4, z5, z6, z7⟩ := op_cells (w := w) ((by simpa using hb2 : Below (w.heap.size + 1) (w.alloc (.cells #[.int .i64 3, .string p, .string q, .slice Ad nd cd, .int .i64 i] 35)) w2).trans (hb3.mono (by omega))))
    | (go_at_call 38; refine (HA.out _ A2 c2 (by exact z7.out.alloc z7.out.size _) (Kd.C_below (Kd.C_below hC2 hb3) ((Below.refl _ _).alloc (Nat.le_refl _) _)) hc2).mono ?_; rintro e w4 ⟨cl, rfl, hb4, hacts⟩))
  go_ret2
  exact ⟨_, rfl, (z7.out.alloc z7.out.size _).trans (hb4.mono (z7.out.alloc z7.out.size _).size), hacts⟩
set_option maxHeartbeats 2000000 in
set_option maxRecDepth 100000 in
theorem plan_k4 (w : World) (t : Nat) (f g : Nat → Nat) (r : RS) (res : RS × Int) (p q : ByteArray) (Ad : Option Addr) (nd cd : Nat) (i : Int) (l : List ByteArray) (hsp : SplitC p l 0) (p1 : Option Addr) (nm : ByteArray) (p2 : Option Addr) (hf : FindC w t l p1 nm p2 0)
    (ha : ∀ W A c, Below w.heap.size w W → Kd.C Kd.string W A l.length l → l.length ≤ c → Calls Tryz.prog 39 #[.pointer (some ⟨t, 0, none⟩), .pointer p2, .int .i64 i] W (PlanPost W t f g r res)) :
    Calls Tryz.prog 20 #[.pointer (some ⟨t, 0, none⟩), opVal 4 p q Ad nd cd i] w (PlanPost w t f g r res) := by
  have HS := Lib.hid hsp
  have HF := Lib.hid hf
  have HA := Lib.hid ha
  clear hsp hf ha
  unfold opVal
  go_enter Tryz.func20, Tryz.ntmps20
  go_wp2_with (first
    | (go_at_call 35; refine (HS.out _).mono ?_; rintro e w2 ⟨A2, c2, rfl, hc2, hC2, hb2⟩; obtain ⟨y0, y1, y2, y3, y4, y5, y6, y7⟩ := op_cells (w := w) (by simpa using hb2))
    | (go_at_call 36; refine (HF.out _ A2 c2 y7.out hC2 hc2).mono ?_; rintro e w3 ⟨⟨lv, rfl, hlv0, hlv1⟩, hb3⟩; have hlv := hlv0 rfl; clear hlv0 hlv1; subst hlv; obtain ⟨z0, z1, z2, z3, z4, z5, z6, z7⟩ := op_cells (w := w) ((by simpa using hb2 : Below (w.heap.size + 1) (w.alloc (.cells #[.int .i64 4, .string p, .string q, .slice Ad nd cd, .int .i64 i] 35)) w2).trans (hb3.mono (by omega))))
    | (go_at_call 39; refine (HA.out _ A2 c2 (by exact z7.out.alloc z7.out.size _) (Kd.C_below (Kd.C_below hC2 hb3) ((Below.refl _ _).alloc (Nat.le_refl _) _)) hc2).mono ?_; rintro e w4 ⟨cl, rfl, hb4, hacts⟩))
  go_ret2
  exact ⟨_, rfl, (z7.out.alloc z7.out.size _).trans (hb4.mono (z7.out.alloc z7.out.size _).size), hacts⟩
set_option maxHeartbeats 2000000 in
set_option maxRecDepth 100000 in
theorem plan_k5 (w : World) (t : Nat) (f g : Nat → Nat) (r : RS) (res : RS × Int) (p q : ByteArray) (Ad : Option Addr) (nd cd : Nat) (i : Int) (l : List ByteArray) (hsp : SplitC p l 0) (p1 : Option Addr) (nm : ByteArray) (p2 : Option Addr) (hf : FindC w t l p1 nm p2 0)
    (ha : ∀ W A c, Below w.heap.size w W → Kd.C Kd.string W A l.length l → l.length ≤ c → Calls Tryz.prog 40 #[.pointer (some ⟨t, 0, none⟩), .agg #[.pointer p1, .string nm, .pointer p2, .slice A l.length c], .bool false] W (PlanPost W t f g r res)) :
    Calls Tryz.prog 20 #[.pointer (some ⟨t, 0, none⟩), opVal 5 p q Ad nd cd i] w (PlanPost w t f g r res) := by
  have HS := Lib.hid hsp
  have HF := Lib.hid hf
  have HA := Lib.hid ha
  clear hsp hf ha
  unfold opVal
  go_enter Tryz.func20, Tryz.ntmps20
  go_wp2_with (first
    | (go_at_call 35; refine (HS.out _).mono ?_; rintro e w2 ⟨A2, c2, rfl, hc2, hC2, hb2⟩; obtain ⟨y0, y1, y2, y3, y4, y5, y6, y7⟩ := op_cells (w := w) (by simpa using hb2))
    | (go_at_call 36; refine (HF.out _ A2 c2 y7.out hC2 hc2).mono ?_; rintro e w3 ⟨⟨lv, rfl, hlv0, hlv1⟩, hb3⟩; have hlv := hlv0 rfl; clear hlv0 hlv1; subst hlv; obtain ⟨z0, z1, z2, z3, z4, z5, z6, z7⟩ := op_cells (w := w) ((by simpa using hb2 : Below (w.heap.size + 1) (w.alloc (.cells #[.int .i64 5, .string p, .string q, .slice Ad nd cd, .int .i64 i] 35)) w2).trans (hb3.mono (by omega))))
    | (go_at_call 40; refine (HA.out _ A2 c2 (by exact z7.out.alloc z7.out.size _) (Kd.C_below (Kd.C_below hC2 hb3) ((Below.refl _ _).alloc (Nat.le_refl _) _)) hc2).mono ?_; rintro e w4 ⟨cl, rfl, hb4, hacts⟩))
  go_ret2
  exact ⟨_, rfl, (z7.out.alloc z7.out.size _).trans (hb4.mono (z7.out.alloc z7.out.size _).size), hacts⟩
set_option maxHeartbeats 2000000 in
set_option maxRecDepth 100000 in
theorem plan_k6 (w : World) (t : Nat) (f g : Nat → Nat) (r : RS) (res : RS × Int) (p q : ByteArray) (Ad : Option Addr) (nd cd : Nat) (i : Int) (l : List ByteArray) (hsp : SplitC p l 0) (p1 : Option Addr) (nm : ByteArray) (p2 : Option Addr) (hf : FindC w t l p1 nm p2 0)
    (ha : ∀ W A c, Below w.heap.size w W → Kd.C Kd.string W A l.length l → l.length ≤ c → Calls Tryz.prog 40 #[.pointer (some ⟨t, 0, none⟩), .agg #[.pointer p1, .string nm, .pointer p2, .slice A l.length c], .bool true] W (PlanPost W t f g r res)) :
    Calls Tryz.prog 20 #[.pointer (some ⟨t, 0, none⟩), opVal 6 p q Ad nd cd i] w (PlanPost w t f g r res) := by
  have HS := Lib.hid hsp
  have HF := Lib.hid hf
  have HA := Lib.hid ha
  clear hsp hf ha
  unfold opVal
  go_enter Tryz.func20, Tryz.ntmps20
  go_wp2_with (first
    | (go_at_call 35; refine (HS.out _).mono ?_; rintro e w2 ⟨A2, c2, rfl, hc2, hC2, hb2⟩; obtain ⟨y0, y1, y2, y3, y4, y5, y6, y7⟩ := op_cells (w := w) (by simpa using hb2))
    | (go_at_call 36; refine (HF.out _ A2 c2 y7.out hC2 hc2).mono ?_; rintro e w3 ⟨⟨lv, rfl, hlv0, hlv1⟩, hb3⟩; have hlv := hlv0 rfl; clear hlv0 hlv1; subst hlv; obtain ⟨z0, z1, z2, z3, z4, z5, z6, z7⟩ := op_cells (w := w) ((by simpa using hb2 : Below (w.heap.size + 1) (w.alloc (.cells #[.int .i64 6, .string p, .string q, .slice Ad nd cd, .int .i64 i] 35)) w2).trans (hb3.mono (by omega))))
    | (go_at_call 40; refine (HA.out _ A2 c2 (by exact z7.out.alloc z7.out.size _) (Kd.C_below (Kd.C_below hC2 hb3) ((Below.refl _ _).alloc (Nat.le_refl _) _)) hc2).mono ?_; rintro e w4 ⟨cl, rfl, hb4, hacts⟩))
  go_ret2
  exact ⟨_, rfl, (z7.out.alloc z7.out.size _).trans (hb4.mono (z7.out.alloc z7.out.size _).size), hacts⟩
end Go.Proofs.YtmjhflmkgmfjkaaGreatDoor
namespace Go.Proofs.YtmjhflmkgmfjkaaGreatDoor
open Go.RowKit Go.Proofs.YtmjhflmkgmfjkaaGreatDoorW.PrintWords Go.Proofs.YtmjhflmkgmfjkaaGreatDoorW.PrintMore
open PTreeTwins (S58 S106 S35 z58 z106)
set_option maxHeartbeats 2000000 in
set_option maxRecDepth 100000 in
theorem plan_to (w : World) (t : Nat) (f g : Nat → Nat) (r : RS) (res : RS × Int) (p q : ByteArray) (Ad : Option Addr) (nd cd : Nat) (i : Int) (l : List ByteArray) (hsp : SplitC p l 0) (m : List ByteArray) (e0 : Int) (hsq : SplitC q m e0) (he : e0 ≠ 0) (hres : res.2 = e0) :
    Calls Tryz.prog 20 #[.pointer (some ⟨t, 0, none⟩), opVal 7 p q Ad nd cd i] w (PlanPost w t f g r res) := by
  have d3 : (e0 != 0) = true := by simpa using he
  have HR := Lib.hid hres
  have HE := Lib.hid he
  have HS := Lib.hid hsp
  have HQ := Lib.hid hsq
  clear hres he hsp hsq
  unfold opVal
  go_enter Tryz.func20, Tryz.ntmps20
  go_wp2_with (first
    | (go_at_call 35; with_reducible refine (HS.out _).mono ?_; rintro e w2 ⟨A2, c2, rfl, hc2, hC2, hb2⟩; obtain ⟨y0, y1, y2, y3, y4, y5, y6, y7⟩ := op_cells (w := w) (by simpa using hb2))
    | (go_at_call 35; with_reducible refine (HQ.out _).mono ?_; rintro e w3 ⟨A3, c3, rfl, hc3, hC3, hb3⟩; obtain ⟨z0, z1, z2, z3, z4, z5, z6, z7⟩ := op_cells (w := w) ((by simpa using hb2 : Below (w.heap.size + 1) (w.alloc (.cells #[.int .i64 7, .string p, .string q, .slice Ad nd cd, .int .i64 i] 35)) w2).trans (hb3.mono (by omega)))))
  go_ret2
  exact PlanPost.bad HR.out HE.out z7.out
set_option maxHeartbeats 2000000 in
set_option maxRecDepth 100000 in
theorem plan_find7 (w : World) (t : Nat) (f g : Nat → Nat) (r : RS) (res : RS × Int) (p q : ByteArray) (Ad : Option Addr) (nd cd : Nat) (i : Int) (l m : List ByteArray) (hsp : SplitC p l 0) (hsq : SplitC q m 0) (p1 : Option Addr) (nm : ByteArray) (p2 : Option Addr) (e0 : Int) (hf : FindC w t l p1 nm p2 e0) (he : e0 ≠ 0) (hres : res.2 = e0) :
    Calls Tryz.prog 20 #[.pointer (some ⟨t, 0, none⟩), opVal 7 p q Ad nd cd i] w (PlanPost w t f g r res) := by
  have d3 : (e0 != 0) = true := by simpa using he
  have HR := Lib.hid hres
  have HE := Lib.hid he
  have HS := Lib.hid hsp
  have HQ := Lib.hid hsq
  have HF := Lib.hid hf
  clear hres he hsp hsq hf
  unfold opVal
  go_enter Tryz.func20, Tryz.ntmps20
  go_wp2_with (first
    | (go_at_call 35; with_reducible refine (HS.out _).mono ?_; rintro e w2 ⟨A2, c2, rfl, hc2, hC2, hb2⟩; obtain ⟨y0, y1, y2, y3, y4, y5, y6, y7⟩ := op_cells (w := w) (by simpa using hb2))
    | (go_at_call 35; with_reducible refine (HQ.out _).mono ?_; rintro e w3 ⟨A3, c3, rfl, hc3, hC3, hb3⟩; obtain ⟨z0, z1, z2, z3, z4, z5, z6, z7⟩ := op_cells (w := w) ((by simpa using hb2 : Below (w.heap.size + 1) (w.alloc (.cells #[.int .i64 7, .string p, .string q, .slice Ad nd cd, .int .i64 i] 35)) w2).trans (hb3.mono (by omega))))
    | (go_at_call 36; refine (HF.out _ A2 c2 z7.out (Kd.C_below hC2 hb3) hc2).mono ?_; rintro e w4 ⟨⟨lv, rfl, hlv0, hlv1⟩, hb4⟩; have hlv := hlv1 HE.out; clear hlv0 hlv1; subst hlv))
  go_ret2
  exact PlanPost.bad HR.out HE.out ((z7.out.trans (hb4.mono z7.out.size)).alloc (Nat.le_trans z7.out.size hb4.size) _)
set_option maxHeartbeats 2000000 in
set_option maxRecDepth 100000 in
theorem plan_k7 (w : World) (t : Nat) (f g : Nat → Nat) (r : RS) (res : RS × Int) (p q : ByteArray) (Ad : Option Addr) (nd cd : Nat) (i : Int) (l m : List ByteArray) (hsp : SplitC p l 0) (hsq : SplitC q m 0) (p1 : Option Addr) (nm : ByteArray) (p2 : Option Addr) (hf : FindC w t l p1 nm p2 0)
    (ha : ∀ W A c A' c', Below w.heap.size w W → Kd.C Kd.string W A l.length l → l.length ≤ c → Kd.C Kd.string W A' m.length m → m.length ≤ c' → Calls Tryz.prog 41 #[.pointer (some ⟨t, 0, none⟩), .agg #[.pointer p1, .string nm, .pointer p2, .slice A l.length c], .slice A' m.length c'] W (PlanPost W t f g r res)) :
    Calls Tryz.prog 20 #[.pointer (some ⟨t, 0, none⟩), opVal 7 p q Ad nd cd i] w (PlanPost w t f g r res) := by
  have HS := Lib.hid hsp
  have HQ := Lib.hid hsq
  have HF := Lib.hid hf
  have HA := Lib.hid ha
  clear hsp hsq hf ha
  unfold opVal
  go_enter Tryz.func20, Tryz.ntmps20
  go_wp2_with (first
    | (go_at_call 35; with_reducible refine (HS.out _).mono ?_; rintro e w2 ⟨A2, c2, rfl, hc2, hC2, hb2⟩; obtain ⟨y0, y1, y2, y3, y4, y5, y6, y7⟩ := op_cells (w := w) (by simpa using hb2))
    | (go_at_call 35; with_reducible refine (HQ.out _).mono ?_; rintro e w3 ⟨A3, c3, rfl, hc3, hC3, hb3⟩; obtain ⟨z0, z1, z2, z3, z4, z5, z6, z7⟩ := op_cells (w := w) ((by simpa using hb2 : Below (w.heap.size + 1) (w.alloc (.cells #[.int .i64 7, .string p, .string q, .slice Ad nd cd, .int .i64 i] 35)) w2).trans (hb3.mono (by omega))))
    | (go_at_call 36; refine (HF.out _ A2 c2 z7.out (Kd.C_below hC2 hb3) hc2).mono ?_; rintro e w4 ⟨⟨lv, rfl, hlv0, hlv1⟩, hb4⟩; have hlv := hlv0 rfl; clear hlv0 hlv1; subst hlv; obtain ⟨x0, x1, x2, x3, x4, x5, x6, x7⟩ := op_cells (w := w) ((by simpa using hb2 : Below (w.heap.size + 1) (w.alloc (.cells #[.int .i64 7, .string p, .string q, .slice Ad nd cd, .int .i64 i] 35)) w2).trans ((hb3.trans (hb4.mono hb3.size)).mono (by omega))))
    | (go_at_call 41; refine (HA.out _ A2 c2 A3 c3 (by exact x7.out.alloc x7.out.size _) (Kd.C_below (Kd.C_below (Kd.C_below hC2 hb3) hb4) ((Below.refl _ _).alloc (Nat.le_refl _) _)) hc2 (Kd.C_below (Kd.C_below hC3 hb4) ((Below.refl _ _).alloc (Nat.le_refl _) _)) hc3).mono ?_; rintro e w5 ⟨cl, rfl, hb5, hacts⟩))
  go_ret2
  exact ⟨_, rfl, (x7.out.alloc x7.out.size _).trans (hb5.mono (x7.out.alloc x7.out.size _).size), hacts⟩
end Go.Proofs.YtmjhflmkgmfjkaaGreatDoor
namespace Go.Proofs.YtmjhflmkgmfjkaaGreatDoor
open Go.RowKit Go.Proofs.YtmjhflmkgmfjkaaGreatDoorW.PrintWords Go.Proofs.YtmjhflmkgmfjkaaGreatDoorW.PrintMore
open PTreeTwins (S58 S106 S35 z58 z106)
def rootS : Spot := ⟨none, ByteArray.empty, some 0⟩
def iPlan (o : S35) (r : RS) : RS × Int :=
  if o.f0 < 1 then (r, 1) else if 7 < o.f0 then (r, 1) else
  if (splitP o.f1).2 ≠ 0 then (r, (splitP o.f1).2) else
  if o.f0 = 7 ∧ (splitP o.f2).2 ≠ 0 then (r, (splitP o.f2).2) else
  if (findL r.L (splitP o.f1).1 rootS).2 ≠ 0 then (r, (findL r.L (splitP o.f1).1 rootS).2) else
  if o.f0 = 1 then iMake r (findL r.L (splitP o.f1).1 rootS).1 false else
  if o.f0 = 2 then iMake r (findL r.L (splitP o.f1).1 rootS).1 true else
  if o.f0 = 3 then iAppend r (findL r.L (splitP o.f1).1 rootS).1.n o.f3 else
  if o.f0 = 4 then iCut r (findL r.L (splitP o.f1).1 rootS).1.n o.f4 else
  if o.f0 = 5 then iRemove r (findL r.L (splitP o.f1).1 rootS).1 false else
  if o.f0 = 6 then iRemove r (findL r.L (splitP o.f1).1 rootS).1 true else
  iMove r (findL r.L (splitP o.f1).1 rootS).1 (splitP o.f1).1 (splitP o.f2).1
theorem plan_calls (w : World) (t : Nat) (f g : Nat → Nat) (way : Nat → List ByteArray) (r : RS) (N : Nat) (hI : ImplAt w t f g r) (hG : Good r.L way) (hL : Lim r N) (o : S35) (Ad : Option Addr) (nd cd : Nat) (hd : kB.C w Ad nd o.f3) :
    Calls Tryz.prog 20 #[.pointer (some ⟨t, 0, none⟩), opVal o.f0 o.f1 o.f2 Ad nd cd o.f4] w (PlanPost w t f g r (iPlan o r)) := by
  unfold iPlan
  by_cases h1 : o.f0 < 1
  · rw [if_pos h1]; exact plan_low w t f g r (r, 1) o.f1 o.f2 Ad nd cd o.f4 o.f0 h1 rfl
  · rw [if_neg h1]
    by_cases h2 : 7 < o.f0
    · rw [if_pos h2]; exact plan_high w t f g r (r, 1) o.f1 o.f2 Ad nd cd o.f4 o.f0 h1 h2 rfl
    · rw [if_neg h2]
      obtain ⟨l, e⟩ : ∃ l, splitP o.f1 = l := ⟨_, rfl⟩
      obtain ⟨l, e1⟩ := l
      rw [e]
      have hl := splitP_ok o.f1
      rw [e] at hl
      simp only at hl ⊢
      by_cases h3 : e1 ≠ 0
      · rw [if_pos h3]; exact plan_split w t f g r (r, e1) o.f1 o.f2 Ad nd cd o.f4 o.f0 h1 h2 l e1 (splitC_of e) h3 rfl
      · rw [if_neg h3]
        have h3' : e1 = 0 := by omega
        subst h3'
        have hsp := splitC_of e
        obtain ⟨m, em⟩ : ∃ m, splitP o.f2 = m := ⟨_, rfl⟩
        obtain ⟨m, e2⟩ := m
        have hm := splitP_ok o.f2
        rw [em] at hm
        rw [em]
        simp only at hm ⊢
        by_cases h4 : o.f0 = 7 ∧ e2 ≠ 0
        · rw [if_pos h4]
          have := plan_to w t f g r (r, e2) o.f1 o.f2 Ad nd cd o.f4 l hsp m e2 (splitC_of em) h4.2 rfl
          rw [h4.1]; exact this
        · rw [if_neg h4]
          obtain ⟨q, hq⟩ : ∃ q, findL r.L l rootS = q := ⟨_, rfl⟩
          obtain ⟨s, e3⟩ := q
          rw [hq]
          have hfc := findC_of hI hG hq
          have hok := findL_ok hG l rootS (fun n hn => (hl n hn).2) (SpotOk.root hG)
          have hwy := findL_way hG l rootS [] (fun i h => by cases h; exact ⟨hG.root.1, hG.root.2.2⟩)
          rw [hq] at hok hwy
          simp only at hok hwy ⊢
          by_cases h5 : e3 ≠ 0
          · rw [if_pos h5]
            by_cases h7 : o.f0 = 7
            · have he2 : e2 = 0 := by
                by_cases h : e2 = 0
                · exact h
                · exact absurd ⟨h7, h⟩ h4
              subst he2
              rw [h7]
              exact plan_find7 w t f g r (r, e3) o.f1 o.f2 Ad nd cd o.f4 l m hsp (splitC_of em) _ _ _ e3 hfc h5 rfl
            · exact plan_find w t f g r (r, e3) o.f1 o.f2 Ad nd cd o.f4 o.f0 h1 h2 h7 l hsp _ _ _ e3 hfc h5 rfl
          · rw [if_neg h5]
            have h5' : e3 = 0 := by omega
            subst h5'
            have hS := hok rfl
            have hWy := hwy rfl
            have hmk : ∀ d : Bool, s.n = none → ∃ a, s.up = some a ∧ Live r.L a ∧ (at_ r.L a).f1 = true ∧ whose (at_ r.L a).f3 s.name = none ∧ s.name ≠ ByteArray.empty := fun _ hn => by
              cases hu : s.up with
              | none => rw [hS.top hu] at hn; cases hn
              | some a =>
                obtain ⟨g1, g2, g3, g4⟩ := hS.up a hu
                exact ⟨a, rfl, g1, g2, by rw [g3, hn], g4⟩
            by_cases k1 : o.f0 = 1
            · rw [if_pos k1, k1]
              exact plan_k1 w t f g r _ o.f1 o.f2 Ad nd cd o.f4 l hsp _ _ _ hfc (fun W A c hW hC hc => make_calls W t f g way r N (hI.below hW) hG hL s _ ⟨A, _, c, rfl⟩ false (hmk false))
            · rw [if_neg k1]
              by_cases k2 : o.f0 = 2
              · rw [if_pos k2, k2]
                exact plan_k2 w t f g r _ o.f1 o.f2 Ad nd cd o.f4 l hsp _ _ _ hfc (fun W A c hW hC hc => make_calls W t f g way r N (hI.below hW) hG hL s _ ⟨A, _, c, rfl⟩ true (hmk true))
              · rw [if_neg k2]
                by_cases k3 : o.f0 = 3
                · rw [if_pos k3, k3]
                  exact plan_k3 w t f g r _ o.f1 o.f2 Ad nd cd o.f4 l hsp _ _ _ hfc (fun W A c hW hC hc => append_calls W t f g r N (hI.below hW) hL s.n (fun a ha => hS.live a ha) Ad nd cd o.f3 (Kd.C_below hd hW))
                · rw [if_neg k3]
                  by_cases k4 : o.f0 = 4
                  · rw [if_pos k4, k4]
                    exact plan_k4 w t f g r _ o.f1 o.f2 Ad nd cd o.f4 l hsp _ _ _ hfc (fun W A c hW hC hc => cut_calls W t f g r N (hI.below hW) hL s.n (fun a ha => hS.live a ha) o.f4)
                  · rw [if_neg k4]
                    by_cases k5 : o.f0 = 5
                    · rw [if_pos k5, k5]
                      exact plan_k5 w t f g r _ o.f1 o.f2 Ad nd cd o.f4 l hsp _ _ _ hfc (fun W A c hW hC hc => remove_calls W t f g way r N (hI.below hW) hG hL s hS A l.length c false)
                    · rw [if_neg k5]
                      by_cases k6 : o.f0 = 6
                      · rw [if_pos k6, k6]
                        exact plan_k6 w t f g r _ o.f1 o.f2 Ad nd cd o.f4 l hsp _ _ _ hfc (fun W A c hW hC hc => remove_calls W t f g way r N (hI.below hW) hG hL s hS A l.length c true)
                      · rw [if_neg k6]
                        have k7 : o.f0 = 7 := by omega
                        have he2 : e2 = 0 := by
                          by_cases h : e2 = 0
                          · exact h
                          · exact absurd ⟨k7, h⟩ h4
                        subst he2
                        rw [k7]
                        exact plan_k7 w t f g r _ o.f1 o.f2 Ad nd cd o.f4 l m hsp (splitC_of em) _ _ _ hfc (fun W A c A' c' hW hC hc hC' hc' => move_calls W t f g way r N (hI.below hW) hG hL s hS A c l hC hc (fun k hk => by have := (hWy k hk).2; simpa using this) A' c' m hC' hc' (fun n hn => (hm n hn).2))
theorem Did.later {w w1 w2 : World} {t : Nat} {f g : Nat → Nat} {r r' : RS} (h : Did w1 t f g r r' w2) (hb : Below w.heap.size w w1) : Did w t f g r r' w2 := by
  obtain ⟨f', g', h1, h2, h3⟩ := h
  exact ⟨f', g', h1, (Keeps.of_below hb).then_ h2 (fun _ h => .inl h), fun k hk => (h3 k hk).imp id (fun h => Nat.le_trans hb.size h)⟩
set_option maxHeartbeats 1000000 in
set_option maxRecDepth 100000 in
/-- t.Do(o) -/
theorem do_calls (w : World) (t : Nat) (f g : Nat → Nat) (way : Nat → List ByteArray) (r : RS) (N : Nat) (hI : ImplAt w t f g r) (hG : Good r.L way) (hL : Lim r N) (o : S35) (Ad : Option Addr) (nd cd : Nat) (hd : kB.C w Ad nd o.f3) :
    Calls Tryz.prog 8 #[.pointer (some ⟨t, 0, none⟩), opVal o.f0 o.f1 o.f2 Ad nd cd o.f4] w fun e w' => e = .returned (.int .i64 (iPlan o r).2) ∧ ((iPlan o r).2 = 0 → Did w t f g r (iPlan o r).1 w') ∧ ((iPlan o r).2 ≠ 0 → Below w.heap.size w w') := by
  have hp := fun W (hW : Below w.heap.size w W) => plan_calls W t f g way r N (hI.below hW) hG hL o Ad nd cd (Kd.C_below hd hW)
  obtain ⟨res, hres⟩ : ∃ res, res = iPlan o r := ⟨_, rfl⟩
  rw [← hres] at hp ⊢
  clear hres
  obtain ⟨r', e'⟩ := res
  unfold opVal at hp ⊢
  have hb : Below w.heap.size w (w.alloc (.cells #[.int .i64 o.f0, .string o.f1, .string o.f2, .slice Ad nd cd, .int .i64 o.f4] 35)) := (Below.refl _ w).alloc (Nat.le_refl _) _
  by_cases he : e' = 0
  · subst he
    go_enter Tryz.func8, Tryz.ntmps8
    go_wp2_with (first
      | (go_at_call 20; refine (hp _ (by exact hb)).mono ?_; rintro e w1 ⟨cl, rfl, hb1, hacts⟩; obtain ⟨fn, cap, hcl, hent, hact⟩ := hacts rfl; subst hcl)
      | (go_at_fn fn; refine (hact 0).mono ?_; rintro e w2 ⟨rfl, hdid⟩))
    go_ret
    exact ⟨rfl, fun _ => hdid.later (hb.trans (hb1.mono hb.size)), fun h => absurd rfl h⟩
  · have hz1 : (e' == 0) = false := by simpa using he
    go_enter Tryz.func8, Tryz.ntmps8
    go_wp2_with (first
      | (go_at_call 20; refine (hp _ (by exact hb)).mono ?_; rintro e w1 ⟨cl, rfl, hb1, hacts⟩))
    go_ret
    exact ⟨rfl, fun h => absurd h he, fun _ => hb.trans (hb1.mono hb.size)⟩
end Go.Proofs.YtmjhflmkgmfjkaaGreatDoor
namespace Go.Proofs.YtmjhflmkgmfjkaaGreatDoor
open Go.RowKit Go.Proofs.YtmjhflmkgmfjkaaGreatDoorW.PrintWords Go.Proofs.YtmjhflmkgmfjkaaGreatDoorW.PrintMore
open PTreeTwins (S58 S106 S35 z58 z106)
/-- what look finds -/
def lookOf (L : List S58) (p : ByteArray) : Option Nat × Int :=
  if (splitP p).2 ≠ 0 then (none, (splitP p).2) else
  if (findL L (splitP p).1 rootS).2 ≠ 0 then (none, (findL L (splitP p).1 rootS).2) else
  match (findL L (splitP p).1 rootS).1.n with
  | none => (none, 8)
  | some i => (some i, 0)
theorem findL_bad {L : List S58} : ∀ (l : List ByteArray) (s : Spot), (findL L l s).2 ≠ 0 → (findL L l s).1 = Spot.zero
  | [], s, h => absurd rfl h
  | n :: l, s, h => by
    unfold findL at h ⊢
    cases hs : s.n with
    | none => rfl
    | some i =>
      rw [hs] at h
      simp only at h ⊢
      by_cases hd : (at_ L i).f1 = true
      · rw [if_pos hd] at h ⊢; exact findL_bad l _ h
      · rw [if_neg hd]
theorem lookOf_live {L : List S58} {way : Nat → List ByteArray} (hG : Good L way) {p : ByteArray} {i : Nat} (h : (lookOf L p).1 = some i) : Live L i ∧ way i = (splitP p).1 ∧ (lookOf L p).2 = 0 := by
  unfold lookOf at h ⊢
  by_cases h1 : (splitP p).2 ≠ 0
  · rw [if_pos h1] at h; cases h
  · rw [if_neg h1] at h ⊢
    by_cases h2 : (findL L (splitP p).1 rootS).2 ≠ 0
    · rw [if_pos h2] at h; cases h
    · rw [if_neg h2] at h ⊢
      have hw := findL_way hG (splitP p).1 rootS [] (fun i h => by cases h; exact ⟨hG.root.1, hG.root.2.2⟩) (by simpa using h2)
      cases hn : (findL L (splitP p).1 rootS).1.n with
      | none => rw [hn] at h; cases h
      | some j =>
        rw [hn] at h
        cases h
        have := hw _ hn
        exact ⟨this.1, by simpa using this.2, rfl⟩
set_option maxHeartbeats 1000000 in
set_option maxRecDepth 100000 in
theorem look_calls (w : World) (t : Nat) (f g : Nat → Nat) (way : Nat → List ByteArray) (r : RS) (hI : ImplAt w t f g r) (hG : Good r.L way) (p : ByteArray) :
    Calls Tryz.prog 30 #[.pointer (some ⟨t, 0, none⟩), .string p] w fun e w' => e = .returned (.tuple #[ptrO f (lookOf r.L p).1, .int .i64 (lookOf r.L p).2]) ∧ Below w.heap.size w w' := by
  obtain ⟨res, hres⟩ : ∃ res, res = lookOf r.L p := ⟨_, rfl⟩
  have hr := hres
  unfold lookOf at hr
  rw [← hres]
  obtain ⟨q, e⟩ : ∃ l, splitP p = l := ⟨_, rfl⟩
  obtain ⟨l, e1⟩ := q
  rw [e] at hr
  simp only at hr
  have HS := Lib.hid (splitC_of e)
  clear hres e
  by_cases h1 : e1 = 0
  · subst h1
    rw [if_neg (by simp)] at hr
    obtain ⟨q, hq⟩ : ∃ q, findL r.L l rootS = q := ⟨_, rfl⟩
    obtain ⟨s, e2⟩ := q
    have HF := Lib.hid (findC_of hI hG hq)
    have hbad := findL_bad (L := r.L) l rootS
    rw [hq] at hr hbad
    simp only at hr hbad
    clear hq
    by_cases h2 : e2 = 0
    · subst h2
      rw [if_neg (by simp)] at hr
      obtain ⟨up, nm, sn⟩ := s
      simp only at hr
      obtain ⟨p1, hp1⟩ : ∃ p1, p1 = up.map fun i => (⟨f i, 0, none⟩ : Addr) := ⟨_, rfl⟩
      simp only [← hp1] at HF
      clear hp1 hbad
      cases sn with
      | none =>
        simp only [Option.map_none] at HF
        have HR := Lib.hid hr
        clear hr
        go_enter Tryz.func30, Tryz.ntmps30
        go_wp2_with (first
          | (go_at_call 35; refine (HS.out _).mono ?_; rintro e w2 ⟨A2, c2, rfl, hc2, hC2, hb2⟩)
          | (go_at_call 36; refine (HF.out _ A2 c2 hb2 hC2 hc2).mono ?_; rintro e w3 ⟨⟨lv, rfl, hlv0, hlv1⟩, hb3⟩; have hlv := hlv0 rfl; clear hlv0 hlv1; subst hlv))
        go_ret2
        exact ⟨by rw [HR.out]; rfl, (hb2.trans (hb3.mono hb2.size)).alloc (Nat.le_trans hb2.size hb3.size) _⟩
      | some i =>
        simp only [Option.map_some] at HF
        have HR := Lib.hid hr
        clear hr
        go_enter Tryz.func30, Tryz.ntmps30
        go_wp2_with (first
          | (go_at_call 35; refine (HS.out _).mono ?_; rintro e w2 ⟨A2, c2, rfl, hc2, hC2, hb2⟩)
          | (go_at_call 36; refine (HF.out _ A2 c2 hb2 hC2 hc2).mono ?_; rintro e w3 ⟨⟨lv, rfl, hlv0, hlv1⟩, hb3⟩; have hlv := hlv0 rfl; clear hlv0 hlv1; subst hlv))
        go_ret2
        exact ⟨by rw [HR.out]; rfl, (hb2.trans (hb3.mono hb2.size)).alloc (Nat.le_trans hb2.size hb3.size) _⟩
    · rw [if_pos h2] at hr
      have hs := hbad h2
      subst hs
      simp only [Spot.zero, Option.map_none] at HF
      have HR := Lib.hid hr
      have H2 := Lib.hid h2
      have hz : (e2 == 0) = false := by simpa using h2
      clear hr h2 hbad
      go_enter Tryz.func30, Tryz.ntmps30
      go_wp2_with (first
        | (go_at_call 35; refine (HS.out _).mono ?_; rintro e w2 ⟨A2, c2, rfl, hc2, hC2, hb2⟩)
        | (go_at_call 36; refine (HF.out _ A2 c2 hb2 hC2 hc2).mono ?_; rintro e w3 ⟨⟨lv, rfl, hlv0, hlv1⟩, hb3⟩; have hlv := hlv1 H2.out; clear hlv0 hlv1; subst hlv))
      go_ret2
      exact ⟨by rw [HR.out]; rfl, (hb2.trans (hb3.mono hb2.size)).alloc (Nat.le_trans hb2.size hb3.size) _⟩
  · rw [if_pos h1] at hr
    have hz : (e1 != 0) = true := by simpa using h1
    have HR := Lib.hid hr
    clear hr h1
    go_enter Tryz.func30, Tryz.ntmps30
    go_wp2_with (first
      | (go_at_call 35; refine (HS.out _).mono ?_; rintro e w2 ⟨A2, c2, rfl, hc2, hC2, hb2⟩))
    go_ret2
    exact ⟨by rw [HR.out]; rfl, hb2⟩
/-- what Read tells -/
def readOf (L : List S58) (p : ByteArray) : List Int × Int := match lookOf L p with
  | (none, e) => ([], e)
  | (some i, _) => if (at_ L i).f1 = true then ([], 10) else ((at_ L i).f2, 0)
theorem lookOf_none {L : List S58} {p : ByteArray} (h : (lookOf L p).1 = none) : (lookOf L p).2 ≠ 0 := by
  unfold lookOf at h ⊢
  by_cases h1 : (splitP p).2 ≠ 0
  · rw [if_pos h1]; exact h1
  · rw [if_neg h1] at h ⊢
    by_cases h2 : (findL L (splitP p).1 rootS).2 ≠ 0
    · rw [if_pos h2]; exact h2
    · rw [if_neg h2] at h ⊢
      cases hn : (findL L (splitP p).1 rootS).1.n with
      | none => exact (by decide : (8 : Int) ≠ 0)
      | some j => rw [hn] at h; cases h
set_option maxHeartbeats 1000000 in
set_option maxRecDepth 100000 in
theorem read_calls (w : World) (t : Nat) (f g : Nat → Nat) (way : Nat → List ByteArray) (r : RS) (hI : ImplAt w t f g r) (hG : Good r.L way) (p : ByteArray) (hdl : ∀ i, (at_ r.L i).f2.length ≤ 8458240) :
    Calls Tryz.prog 16 #[.pointer (some ⟨t, 0, none⟩), .string p] w fun e w' => ∃ v, e = .returned (.tuple #[v, .int .i64 (readOf r.L p).2]) ∧ kB.R 5 w' w.heap.size (fun _ => True) v (readOf r.L p).1 ∧ Below w.heap.size w w' := by
  have hlook := fun W (hW : Below w.heap.size w W) => look_calls W t f g way r (hI.below hW) hG p
  obtain ⟨res, hres⟩ : ∃ res, res = readOf r.L p := ⟨_, rfl⟩
  have hr := hres
  unfold readOf at hr
  rw [← hres]
  have hlv := fun i => lookOf_live hG (p := p) (i := i)
  have hln := lookOf_none (L := r.L) (p := p)
  obtain ⟨q, hq⟩ : ∃ q, lookOf r.L p = q := ⟨_, rfl⟩
  rw [hq] at hlook hr hlv hln
  obtain ⟨n, e1⟩ := q
  simp only at hlook hr hlv hln
  clear hres hq
  cases n with
  | none =>
    have h1 := hln rfl
    have hz1 : (e1 == 0) = false := by simpa using h1
    have hz2 : (e1 != 0) = true := by simpa using h1
    simp only [ptrO, Option.map_none] at hlook hr
    have HR := Lib.hid hr
    clear hr hlv hln h1
    go_enter Tryz.func16, Tryz.ntmps16
    go_wp2_with (first
      | (go_at_call 30; refine (hlook _ (by exact Below.refl _ _)).mono ?_; rintro e w2 ⟨rfl, hb2⟩))
    go_ret2
    exact ⟨_, by rw [HR.out]; rfl, by rw [HR.out]; exact Kd.R_nil _ _ _ _ _, hb2⟩
  | some i =>
    obtain ⟨hi, _, he⟩ := hlv i rfl
    subst he
    simp only [ptrO, Option.map_some] at hlook hr
    cases hd : (at_ r.L i).f1 with
    | true =>
      have hn := ((hI.node i hi).1 hd).node
      rw [if_pos hd] at hr
      have HR := Lib.hid hr
      clear hr hlv hln hd
      go_enter Tryz.func16, Tryz.ntmps16
      go_wp2_with (first
        | (go_at_call 30; refine (hlook _ (by exact Below.refl _ _)).mono ?_; rintro e w2 ⟨rfl, hb2⟩)
        | (go_at_call 31; refine (isFile_node _ true _ _ _ _ (by exact hn.below hb2)).mono ?_; rintro e w3 ⟨rfl, rfl⟩))
      go_ret2
      exact ⟨_, by rw [HR.out]; rfl, by rw [HR.out]; exact Kd.R_nil _ _ _ _ _, hb2⟩
    | false =>
      obtain ⟨v, hn, hv⟩ := (hI.node i hi).2 hd
      obtain ⟨A, c, rfl, hc, hC⟩ := Kd.R_reads hv
      rw [if_neg (by rw [hd]; decide)] at hr
      have hl := hdl i
      have HR := Lib.hid hr
      have HC := Lib.hid hC
      clear hr hlv hln hd hC hv
      go_enter Tryz.func16, Tryz.ntmps16
      go_wp2_with (first
        | (go_at_call 30; refine (hlook _ (by exact Below.refl _ _)).mono ?_; rintro e w2 ⟨rfl, hb2⟩; obtain ⟨n0, n1, n2, n3⟩ := (hn.below hb2).cells)
        | (go_at_call 31; refine (isFile_node _ false _ _ _ _ (by exact hn.below hb2)).mono ?_; rintro e w3 ⟨rfl, rfl⟩)
        | (go_at_call 32; refine (clone_calls A _ c (at_ r.L i).f2 _ (by exact Kd.C_below HC.out hb2) hc (by omega)).mono ?_; rintro e w4 ⟨v4, rfl, ho4, hb4⟩))
      go_ret2
      exact ⟨_, by rw [HR.out]; rfl, by rw [HR.out]; exact Kd.R_lower ho4 hb2.size, hb2.trans (hb4.mono hb2.size)⟩
/-- Free -/
theorem free_calls (w : World) (t : Nat) (f g : Nat → Nat) (r : RS) (hI : ImplAt w t f g r) : Calls Tryz.prog 18 #[.pointer (some ⟨t, 0, none⟩)] w fun e w' => e = .returned (.tuple #[.int .i64 r.bl, .int .i64 r.ino]) ∧ ∃ n, w' = w.drewN n := by
  obtain ⟨c0, c1, c2⟩ := hI.tree.cells
  go_enter Tryz.func18, Tryz.ntmps18
  go_wp2
  go_quiet (fail)
  try go_wp2
  go_ret2
  exact ⟨rfl, _, rfl⟩
end Go.Proofs.YtmjhflmkgmfjkaaGreatDoor
