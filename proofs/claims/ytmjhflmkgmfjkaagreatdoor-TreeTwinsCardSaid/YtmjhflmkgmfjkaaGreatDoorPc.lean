/- A part of the proof: Q1. -/
import Derived.Test.YtmjhflmkgmfjkaaGreatDoorPa
set_option linter.unusedVariables false
set_option linter.unusedSimpArgs false
namespace Go.Proofs.YtmjhflmkgmfjkaaGreatDoor.PTreeTwins
open Go.RowKit Go.Proofs.YtmjhflmkgmfjkaaGreatDoorW.PrintWords Go.Proofs.YtmjhflmkgmfjkaaGreatDoorW.PrintLast Go.Proofs.YtmjhflmkgmfjkaaGreatDoorW.PrintMore
attribute [local go_sem] max2_int min2_int max_two min_two max_three min_three max_four min_four
set_option linter.unusedVariables false
set_option linter.unusedSimpArgs false
mutual
def mailbagref9_At.l0 : Nat → List (S106) → ByteArray → Int → Option (Int)
  | 0, _, _, _ => none
  | k + 1, x0, x1, x5 => if x5 < (x0.length : Int) then (mailbagref9_At.j1 k x0 x1 x5 (x1.toList != ([] : List UInt8))) else (mailbagref9_At.j1 k x0 x1 x5 false)
def mailbagref9_At.j1 : Nat → List (S106) → ByteArray → Int → Bool → Option (Int)
  | 0, _, _, _, _ => none
  | k + 1, x0, x1, x5, x13 => if x13 = true then (if 0 ≤ x5 then (if x5 < (x0.length : Int) then (if ((rd_T106 x0 x5).f0).toList = x1.toList then (some x5) else (mailbagref9_At.l0 k x0 x1 (wrap64 (x5 + 1)))) else (none)) else (none)) else (some (-1))
end
def mailbagref9_At.f (k : Nat) (l0 : List (S106)) (a1 : ByteArray) : Option (Int) := mailbagref9_At.l0 k l0 a1 0
set_option maxHeartbeats 8000000 in
set_option maxRecDepth 100000 in
theorem mailbagref9_At.calls (k : Nat) (A0 : Option Addr) (c0 : Nat) (l0 : List (S106)) (a1 : ByteArray) (r : Int) (w : World) (hr0 : Kd.C k106 w A0 l0.length l0) (hc0 : l0.length ≤ c0) (h : mailbagref9_At.f k l0 a1 = some r) :
    Calls Tryz.prog 44 #[.slice A0 l0.length c0, .string a1] w fun e w' => e = .returned (.int .i64 r) ∧ Drawn0 w w' := by
  have HR0 := Aside0.mk hr0
  have HC0 := Aside0.mk hc0
  clear hr0 hc0
  have H : (mailbagref9_At.l0 k l0 a1 0) = some r := h
  clear h
  have H' := Aside0.mk H
  clear H
  go_enter Tryz.func44, Tryz.ntmps44
  go_wp2
  go_loopg [5] k (fun kq v5 w' => ∃ (x5_1 : Int), v5 = .int .i64 x5_1 ∧ Aside0 (mailbagref9_At.l0 kq l0 a1 x5_1 = some r) ∧ Aside0 (kq ≤ k) ∧ Drawn0 w w')
  case atStart => exact ⟨(0), (by first | rfl | (simp; done) | (simp [*]; done)), H', ⟨Nat.le_refl _⟩, by repeat (first | exact Drawn0.refl _ | apply Drawn0.step)⟩
  case round =>
    clear H'
    try clear p2
    obtain ⟨x5_1, rfl, HA, HK1, ⟨m1, rfl⟩⟩ := hrel
    cases gk with
    | zero => exact absurd HA.out (by simp [mailbagref9_At.l0])
    | succ k1 =>
      have H := HA.out
      clear HA
      simp only [mailbagref9_At.l0] at H
      have HC3 := Aside0.mk H
      clear H
      go_upto_region 2 with (fail)
      go_cut [13] (fun v13 wc => ∃ (kq : Nat) (x13_2 : Bool), v13 = .bool x13_2 ∧ Aside0 (mailbagref9_At.j1 kq l0 a1 x5_1 x13_2 = some r) ∧ Aside0 (kq ≤ k1) ∧ Drawn0 w wc)
      case first =>
        have H := HC3.out
        clear HC3
        by_cases c4 : x5_1 < (l0.length : Int)
        · rw [if_pos c4] at H
          have c4b0 : decide (x5_1 < (l0.length : Int)) = true := decide_eq_true c4
          clear c4
          (first | rw [c4b0] | (simp only [i64_w, i32_w]; rw [c4b0]) | skip)
          have H' := Aside0.mk H
          clear H
          go_wp2
          go_meet
          case rel => exact ⟨_, ((a1.toList != ([] : List UInt8))), (by first | rfl | (congr 1; cases a1.toList <;> rfl) | (simp; done) | (simp [*]; done)), H', ⟨by have := HK1.out; first | omega | exact Nat.le_refl _⟩, by repeat (first | exact Drawn0.refl _ | apply Drawn0.step)⟩
        · rw [if_neg c4] at H
          have c4b0 : decide (x5_1 < (l0.length : Int)) = false := decide_eq_false c4
          clear c4
          (first | rw [c4b0] | (simp only [i64_w, i32_w]; rw [c4b0]) | skip)
          have H' := Aside0.mk H
          clear H
          go_wp2
          go_meet
          case rel => exact ⟨_, (false), (by first | rfl | (simp; done) | (simp [*]; done)), H', ⟨by have := HK1.out; first | omega | exact Nat.le_refl _⟩, by repeat (first | exact Drawn0.refl _ | apply Drawn0.step)⟩
      case rest =>
        clear HC3
        try clear p2
        try clear c4
        try clear c4b0
        try clear p2
        obtain ⟨kq, x13_2, rfl, HA, HJ2, ⟨mc2, rfl⟩⟩ := hcut
        cases kq with
        | zero => exact absurd HA.out (by simp [mailbagref9_At.j1])
        | succ kj2 =>
          have H := HA.out
          clear HA
          simp only [mailbagref9_At.j1] at H
          by_cases c5 : x13_2 = true
          · subst c5
            have H1 : (if 0 ≤ x5_1 then (if x5_1 < (l0.length : Int) then (if ((rd_T106 l0 x5_1).f0).toList = a1.toList then (some x5_1) else (mailbagref9_At.l0 kj2 l0 a1 (wrap64 (x5_1 + 1)))) else (none)) else (none)) = some r := by rw [if_pos rfl] at H; exact H
            clear H
            have H := H1
            clear H1
            by_cases c6 : 0 ≤ x5_1
            · rw [if_pos c6] at H
              have c6b0 : decide (0 ≤ x5_1) = true := decide_eq_true c6
              clear c6
              by_cases c7 : x5_1 < (l0.length : Int)
              · rw [if_pos c7] at H
                have c7b0 : decide (x5_1 < (l0.length : Int)) = true := decide_eq_true c7
                clear c7
                by_cases c8 : ((rd_T106 l0 x5_1).f0).toList = a1.toList
                · rw [if_pos c8] at H
                  have c8b0 : (((rd_T106 l0 x5_1).f0).toList == a1.toList) = true := beq_iff_eq.mpr c8
                  have c8b1 : (((rd_T106 l0 x5_1).f0).toList != a1.toList) = false := bne_eq_false_iff_eq.mpr c8
                  clear c8
                  obtain rfl := Option.some.inj H
                  have p245 : 0 ≤ (x5_1 : Int) := of_decide_eq_true (by first | (with_reducible assumption) | assumption)
                  have q245 : x5_1 < (l0.length : Int) := of_decide_eq_true (by first | (with_reducible assumption) | assumption)
                  obtain ⟨ad245, e245, hx245_0, hx245_1⟩ := at_T106 HR0.out x5_1 p245 q245
                  cases e245
                  replace p245 := eq_true p245
                  replace q245 := eq_true q245
                  go_wp2
                  go_ret
                  exact ⟨by first | rfl | (simp; done) | (simp [*]; done), by repeat (first | exact Drawn0.refl _ | apply Drawn0.step)⟩
                · rw [if_neg c8] at H
                  have c8b0 : (((rd_T106 l0 x5_1).f0).toList == a1.toList) = false := beq_eq_false_iff_ne.mpr c8
                  have c8b1 : (((rd_T106 l0 x5_1).f0).toList != a1.toList) = true := bne_iff_ne.mpr c8
                  have H' := Aside0.mk H
                  clear H
                  have p245 : 0 ≤ (x5_1 : Int) := of_decide_eq_true (by first | (with_reducible assumption) | assumption)
                  have q245 : x5_1 < (l0.length : Int) := of_decide_eq_true (by first | (with_reducible assumption) | assumption)
                  obtain ⟨ad245, e245, hx245_0, hx245_1⟩ := at_T106 HR0.out x5_1 p245 q245
                  cases e245
                  replace p245 := eq_true p245
                  replace q245 := eq_true q245
                  go_wp2
                  go_roundg kj2
                  case measure => have := HK1.out; have := HJ2.out; omega
                  case rel => exact ⟨(wrap64 (x5_1 + 1)), (by first | rfl | (simp; done) | (simp [*]; done)), H', ⟨by have := HK1.out; have := HJ2.out; omega⟩, by repeat (first | exact Drawn0.refl _ | apply Drawn0.step)⟩
              · rw [if_neg c7] at H
                exact absurd H (by simp)
            · rw [if_neg c6] at H
              exact absurd H (by simp)
          · replace c5 := Bool.eq_false_iff.mpr c5
            subst c5
            have H1 : (some (-1)) = some r := by rw [if_neg (show ¬ (false = true) by decide)] at H; exact H
            clear H
            have H := H1
            clear H1
            obtain rfl := Option.some.inj H
            go_wp2
            go_ret
            exact ⟨by first | rfl | (simp; done) | (simp [*]; done), by repeat (first | exact Drawn0.refl _ | apply Drawn0.step)⟩
def mailbagref9_Size.f (l0 : List (S106)) : Option (Int) := some (wrap64 ((wrap64 (Int.tdiv (wrap64 ((wrap64 ((l0.length : Int) + 8)) - 1)) 8)) * 512))
set_option maxHeartbeats 8000000 in
set_option maxRecDepth 100000 in
theorem mailbagref9_Size.calls (A0 : Option Addr) (c0 : Nat) (l0 : List (S106)) (r : Int) (w : World) (hr0 : Kd.C k106 w A0 l0.length l0) (hc0 : l0.length ≤ c0) (h : mailbagref9_Size.f l0 = some r) :
    Calls Tryz.prog 82 #[.slice A0 l0.length c0] w fun e w' => e = .returned (.int .i64 r) ∧ Drawn0 w w' := by
  have HR0 := Aside0.mk hr0
  have HC0 := Aside0.mk hc0
  clear hr0 hc0
  have H : (some (wrap64 ((wrap64 (Int.tdiv (wrap64 ((wrap64 ((l0.length : Int) + 8)) - 1)) 8)) * 512))) = some r := h
  clear h
  obtain rfl := Option.some.inj H
  go_enter Tryz.func82, Tryz.ntmps82
  go_wp2
  go_ret
  exact ⟨by first | rfl | (simp; done) | (simp [*]; done), by repeat (first | exact Drawn0.refl _ | apply Drawn0.step)⟩
mutual
def mailbagref9_Put.j0 : Nat → List (S106) → ByteArray → Int → Bool → Option ((List (S106)) × Int × Int)
  | 0, _, _, _, _ => none
  | k + 1, x0, x1, x2, x15 => if x15 = true then (some (([] : List (S106)), 0, 1)) else ((mailbagref9_At.f k x0 x1).bind fun t253 => (if t253 ≥ 0 then (some (([] : List (S106)), 0, 9)) else ((some (([] : List (S106)) : List (S106))).bind fun y254 => (if y254.length + x0.length < 5864062014805 then (mailbagref9_Put.l0 k x0 x1 x2 (y254 ++ x0) 0) else (none)))))
def mailbagref9_Put.l0 : Nat → List (S106) → ByteArray → Int → List (S106) → Int → Option ((List (S106)) × Int × Int)
  | 0, _, _, _, _, _ => none
  | k + 1, x0, x1, x2, x9, x10 => if x10 < (x9.length : Int) then (if 0 ≤ x10 then (if ((rd_T106 x9 x10).f0).toList = ([] : List UInt8) then (some ((x9.set (x10 : Int).toNat (⟨x1, x2⟩ : S106)), 0, 0)) else (mailbagref9_Put.l0 k x0 x1 x2 x9 (wrap64 (x10 + 1)))) else (none)) else (if x9.length < 5864062014805 then ((some (x9 ++ [(⟨x1, x2⟩ : S106)] : List (S106))).bind fun y262 => ((mailbagref9_Size.f y262).bind fun t265 => ((mailbagref9_Size.f x0).bind fun t266 => (some (y262, wrap64 (t265 - t266), 0))))) else (none))
end
def mailbagref9_Put.f (k : Nat) (l0 : List (S106)) (a1 : ByteArray) (a2 : Int) : Option ((List (S106)) × Int × Int) := (mailbagref9_Name.f k a1).bind fun t252 => (if t252 = true then (if a2 < 1 then (mailbagref9_Put.j0 k l0 a1 a2 true) else (mailbagref9_Put.j0 k l0 a1 a2 (decide (a2 > 65535)))) else (some (([] : List (S106)), 0, 12)))
set_option maxHeartbeats 8000000 in
set_option maxRecDepth 100000 in
theorem mailbagref9_Put.calls (k : Nat) (A0 : Option Addr) (c0 : Nat) (l0 : List (S106)) (a1 : ByteArray) (a2 : Int) (r1 : List (S106)) (r2 : Int) (r3 : Int) (w : World) (hr0 : Kd.C k106 w A0 l0.length l0) (hc0 : l0.length ≤ c0) (h : mailbagref9_Put.f k l0 a1 a2 = some (r1, r2, r3)) :
    Calls Tryz.prog 45 #[.slice A0 l0.length c0, .string a1, .int .i64 a2] w fun e w' => ∃ v0_ : Value, e = .returned (.tuple #[v0_, .int .i64 r2, .int .i64 r3]) ∧ Kd.R k106 106 w' w.heap.size (fun _ => True) v0_ r1 ∧ Below w.heap.size w w' := by
  have hu106 := Tryz.underlying106
  have HR0 := Aside0.mk hr0
  have HC0 := Aside0.mk hc0
  clear hr0 hc0
  have HB := Aside0.mk (Below.refl w.heap.size w)
  have H : ((mailbagref9_Name.f k a1).bind fun t252 => (if t252 = true then (if a2 < 1 then (mailbagref9_Put.j0 k l0 a1 a2 true) else (mailbagref9_Put.j0 k l0 a1 a2 (decide (a2 > 65535)))) else (some (([] : List (S106)), 0, 12)))) = some (r1, r2, r3) := h
  clear h
  replace H := Option.bind_eq_some_iff.mp H
  obtain ⟨t252, A40, H⟩ := H
  replace H : (if t252 = true then (if a2 < 1 then (mailbagref9_Put.j0 k l0 a1 a2 true) else (mailbagref9_Put.j0 k l0 a1 a2 (decide (a2 > 65535)))) else (some (([] : List (S106)), 0, 12))) = some (r1, r2, r3) := H
  have A4 := Aside0.mk A40
  clear A40
  by_cases c5 : t252 = true
  · subst c5
    have H1 : (if a2 < 1 then (mailbagref9_Put.j0 k l0 a1 a2 true) else (mailbagref9_Put.j0 k l0 a1 a2 (decide (a2 > 65535)))) = some (r1, r2, r3) := by rw [if_pos rfl] at H; exact H
    clear H
    have H := H1
    clear H1
    have HC6 := Aside0.mk H
    clear H
    go_enter Tryz.func45, Tryz.ntmps45
    go_upto_region 3 with (first | ((with_reducible refine gate_callee (f := 42) rfl ?_); refine goesL_ (some 13) rfl rfl Tryz.func42 (by kernel_rfl) rfl #[.string a1] rfl (by (try simp only [List.map_toArray, List.map_cons, List.map_nil]); first | done | rfl | (simp only [List.length_drop, List.length_take]; rfl)) ?_; (with_reducible refine (mailbagref9_Name.calls k a1 true _ A4.out).mono ?_); rintro e w' ⟨rfl, ⟨nd, rfl⟩⟩; refine ⟨_, rfl, ?_⟩))
    (try simp only [Act.put, List.setIfInBounds_toArray, List.set_cons_zero, List.set_cons_succ])
    go_cut [15] (fun v15 wc => ∃ (kq : Nat) (x15_5 : Bool), v15 = .bool x15_5 ∧ Aside0 (mailbagref9_Put.j0 kq l0 a1 a2 x15_5 = some (r1, r2, r3)) ∧ Aside0 (kq ≤ k) ∧ Aside0 (Below w.heap.size w wc))
    case first =>
      have H := HC6.out
      clear HC6
      by_cases c7 : a2 < 1
      · rw [if_pos c7] at H
        have c7b0 : decide (a2 < 1) = true := decide_eq_true c7
        clear c7
        (first | rw [c7b0] | (simp only [i64_w, i32_w]; rw [c7b0]) | skip)
        have H' := Aside0.mk H
        clear H
        go_wp2
        go_meet
        case rel => exact ⟨_, (true), (by first | rfl | (simp; done) | (simp [*]; done)), H', ⟨by first | omega | exact Nat.le_refl _⟩, ⟨by repeat (first | (with_reducible first | exact HB.out | apply below_alloc | apply pw_below_drewN | apply below_drew1) | exact HB.out)⟩⟩
      · rw [if_neg c7] at H
        have c7b0 : decide (a2 < 1) = false := decide_eq_false c7
        clear c7
        (first | rw [c7b0] | (simp only [i64_w, i32_w]; rw [c7b0]) | skip)
        have H' := Aside0.mk H
        clear H
        go_wp2
        go_meet
        case rel => exact ⟨_, (decide (a2 > 65535)), (by first | rfl | (simp; done) | (simp [*]; done)), H', ⟨by first | omega | exact Nat.le_refl _⟩, ⟨by repeat (first | (with_reducible first | exact HB.out | apply below_alloc | apply pw_below_drewN | apply below_drew1) | exact HB.out)⟩⟩
    case rest =>
      clear HC6
      try clear p2
      try clear c4
      try clear c5
      try clear c7
      try clear c7b0
      obtain ⟨kq, x15_5, rfl, HA, HJ5, HB⟩ := hcut
      cases kq with
      | zero => exact absurd HA.out (by simp [mailbagref9_Put.j0])
      | succ kj5 =>
        have H := HA.out
        clear HA
        simp only [mailbagref9_Put.j0] at H
        by_cases c8 : x15_5 = true
        · subst c8
          have H1 : (some (([] : List (S106)), 0, 1)) = some (r1, r2, r3) := by rw [if_pos rfl] at H; exact H
          clear H
          have H := H1
          clear H1
          simp only [Option.some.injEq, Prod.mk.injEq] at H
          obtain ⟨rfl, rfl, rfl⟩ := H
          go_wp2
          go_ret3
          exact ⟨_, by first | rfl | (simp [errW_none, errW_some] <;> rfl) | (simp [*, errW_none, errW_some] <;> rfl), by first | exact Kd.R_nil _ _ _ _ _ | exact Kd.N_nil _ _ _ _ _ | exact Kd.V_nil _ _ _ _ _ | exact Kd.Q_nil _ _ _ _ _ | exact Kd.S_nil _ _ _ _ _, by repeat (first | (with_reducible first | exact HB.out | apply below_alloc | apply pw_below_drewN | apply below_drew1) | exact HB.out)⟩
        · replace c8 := Bool.eq_false_iff.mpr c8
          subst c8
          have H1 : ((mailbagref9_At.f kj5 l0 a1).bind fun t253 => (if t253 ≥ 0 then (some (([] : List (S106)), 0, 9)) else ((some (([] : List (S106)) : List (S106))).bind fun y254 => (if y254.length + l0.length < 5864062014805 then (mailbagref9_Put.l0 kj5 l0 a1 a2 (y254 ++ l0) 0) else (none))))) = some (r1, r2, r3) := by rw [if_neg (show ¬ (false = true) by decide)] at H; exact H
          clear H
          have H := H1
          clear H1
          replace H := Option.bind_eq_some_iff.mp H
          obtain ⟨t253, A90, H⟩ := H
          replace H : (if t253 ≥ 0 then (some (([] : List (S106)), 0, 9)) else ((some (([] : List (S106)) : List (S106))).bind fun y254 => (if y254.length + l0.length < 5864062014805 then (mailbagref9_Put.l0 kj5 l0 a1 a2 (y254 ++ l0) 0) else (none)))) = some (r1, r2, r3) := H
          have A9 := Aside0.mk A90
          clear A90
          by_cases c10 : t253 ≥ 0
          · rw [if_pos c10] at H
            have c10b0 : decide (0 ≤ t253) = true := decide_eq_true c10
            clear c10
            simp only [Option.some.injEq, Prod.mk.injEq] at H
            obtain ⟨rfl, rfl, rfl⟩ := H
            go_wp2_with (first | ((with_reducible refine gate_callee (f := 44) rfl ?_); refine goesL_ (some 25) rfl rfl Tryz.func44 (by kernel_rfl) rfl #[.slice A0 l0.length c0, .string a1] rfl (by (try simp only [List.map_toArray, List.map_cons, List.map_nil]); first | done | rfl | (simp only [List.length_drop, List.length_take]; rfl)) ?_; (with_reducible refine (mailbagref9_At.calls kj5 _ _ l0 a1 t253 _ ?side1 ?side2 A9.out).mono ?_); (case side1 => repeat (first | exact (Kd.C_below HR0.out HB.out) | (with_reducible refine Kd.C_alloc ?_ _) | (with_reducible refine Kd.C_drewN ?_ _) | (with_reducible refine Kd.C_drew ?_))); (case side2 => exact HC0.out); rintro e w' ⟨rfl, ⟨nd, rfl⟩⟩; refine ⟨_, rfl, ?_⟩))
            go_ret3
            exact ⟨_, by first | rfl | (simp [errW_none, errW_some] <;> rfl) | (simp [*, errW_none, errW_some] <;> rfl), by first | exact Kd.R_nil _ _ _ _ _ | exact Kd.N_nil _ _ _ _ _ | exact Kd.V_nil _ _ _ _ _ | exact Kd.Q_nil _ _ _ _ _ | exact Kd.S_nil _ _ _ _ _, by repeat (first | (with_reducible first | exact HB.out | apply below_alloc | apply pw_below_drewN | apply below_drew1) | exact HB.out)⟩
          · rw [if_neg c10] at H
            have c10b0 : decide (0 ≤ t253) = false := decide_eq_false c10
            clear c10
            obtain ⟨y254, hy254⟩ : ∃ y_ : List (S106), y_ = (([] : List (S106))) := ⟨_, rfl⟩
            replace H : (if y254.length + l0.length < 5864062014805 then (mailbagref9_Put.l0 kj5 l0 a1 a2 (y254 ++ l0) 0) else (none)) = some (r1, r2, r3) := by first | (rw [hy254]; with_reducible exact H) | (have H2_ := (Option.bind_some _ _).symm.trans H; rw [hy254]; with_reducible exact H2_) | (have H2_ := (Option.bind_some _ _).symm.trans H; with_reducible exact H2_) | with_reducible exact H | (rw [hy254]; exact H) | exact H
            have Ny254 := Aside0.mk hy254
            clear hy254
            by_cases c11 : y254.length + l0.length < 5864062014805
            · rw [if_pos c11] at H
              have LMc11 := Aside0.mk c11
              clear c11
              obtain ⟨y257, hy257⟩ : ∃ y_ : List (S106), y_ = (y254 ++ l0) := ⟨_, rfl⟩
              replace H : (mailbagref9_Put.l0 kj5 l0 a1 a2 y257 0) = some (r1, r2, r3) := by first | (rw [hy257]; with_reducible exact H) | (have H2_ := (Option.bind_some _ _).symm.trans H; rw [hy257]; with_reducible exact H2_) | (have H2_ := (Option.bind_some _ _).symm.trans H; with_reducible exact H2_) | with_reducible exact H | (rw [hy257]; exact H) | exact H
              have Ny257 := Aside0.mk hy257
              clear hy257
              have H' := Aside0.mk H
              clear H
              go_wp2_with (first | ((with_reducible refine gate_callee (f := 44) rfl ?_); refine goesL_ (some 25) rfl rfl Tryz.func44 (by kernel_rfl) rfl #[.slice A0 l0.length c0, .string a1] rfl (by (try simp only [List.map_toArray, List.map_cons, List.map_nil]); first | done | rfl | (simp only [List.length_drop, List.length_take]; rfl)) ?_; (with_reducible refine (mailbagref9_At.calls kj5 _ _ l0 a1 t253 _ ?side1 ?side2 A9.out).mono ?_); (case side1 => repeat (first | exact (Kd.C_below HR0.out HB.out) | (with_reducible refine Kd.C_alloc ?_ _) | (with_reducible refine Kd.C_drewN ?_ _) | (with_reducible refine Kd.C_drew ?_))); (case side2 => exact HC0.out); rintro e w' ⟨rfl, ⟨nd, rfl⟩⟩; refine ⟨_, rfl, ?_⟩) | ((with_reducible refine gate_dst (N := 27) rfl ?_); refine Kd.R_lit k106 _ 106 ?hg (N := 27) ?hd (xs := ([] : List (S106))) (inner := []) (ok := fun _ => True) (okp := fun _ => True) ?hr ?hp (fun _ hk => hk) trivial (Below.refl _ _) (Nat.le_refl _) (by simp) ?_; (case hd => rfl); (case hg => rfl); (case hr => first | (go_simp; done) | (go_simp; rfl)); (case hp => exact (Reps.none _ _)); intro v255 w12 ho13 hb hg_ hnew_; clear hg_ hnew_; (first | rw [← Ny254.out] at ho13 | (simp only [Int.reduceToNat] at ho13; rw [← Ny254.out] at ho13)); have n0_ := Aside0.mk (Kd.R_lower ho13 (below_size (by repeat (first | (with_reducible first | exact HB.out | apply below_alloc | apply pw_below_drewN | apply below_drew1) | exact HB.out)))); have n1_ := Aside0.mk (below_step (by repeat (first | (with_reducible first | exact HB.out | apply below_alloc | apply pw_below_drewN | apply below_drew1) | exact HB.out)) hb); clear HB; have HO256 := n0_; have HB := n1_; clear n0_ n1_; clear hb ho13) | ((with_reducible refine gate_builtin (b := .append) (xs := #[.tmp 27, .tmp 28]) rfl ?_); at_builtin; refine Kd.R_append_rows k106 (w0 := w) w.heap.size rfl (.tmp 27) (.tmp 28) 56 106 (.agg #[(.string ⟨#[]⟩), (.int .i64 0)]) 24 rfl Tryz.underlying56 info106 rfl (by decide) (by omega) v255 y254 l0 _ _ _ (fun _ => True) (fun _ => False) rfl rfl ?aO ?aR (fun _ _ h => h) (fun _ h => h.elim) ?aF ?aB ?aS ?aL ?_; (case aR => repeat (first | exact (Kd.C_below HR0.out HB.out) | (with_reducible refine Kd.C_alloc ?_ _) | (with_reducible refine Kd.C_drewN ?_ _) | (with_reducible refine Kd.C_drew ?_))); (case aB => exact (by repeat (first | (with_reducible first | exact HB.out | apply below_alloc | apply pw_below_drewN | apply below_drew1) | exact HB.out))); (case aF => exact (fun _ _ => trivial)); (case aO => exact (by (with_reducible repeat (first | apply Kd.R_alloc | apply Kd.R_drewN | apply Kd.R_drew)); exact HO256.out)); (case aS => exact (below_size (by repeat (first | (with_reducible first | exact HB.out | apply below_alloc | apply pw_below_drewN | apply below_drew1) | exact HB.out)))); (case aL => have := LMc11.out; omega); intro v258 w14 ho hb hg hat; rw [← Ny257.out] at ho; have n0_ := Aside0.mk (hb); have n1_ := Aside0.mk (ho); clear HB; clear HO256; have HB := n0_; have HO259 := n1_; clear n0_ n1_; clear ho hb hg hat))
              go_loopg [10] kj5 (fun kq v10 w' => ∃ (x9_2 : List (S106)) (x10_2 : Int), v10 = .int .i64 x10_2 ∧ Aside0 (mailbagref9_Put.l0 kq l0 a1 a2 x9_2 x10_2 = some (r1, r2, r3)) ∧ Aside0 (kq ≤ kj5) ∧ Aside0 (Kd.R k106 106 w' w.heap.size (fun _ => True) v258 x9_2) ∧ Aside0 (Below w.heap.size w w'))
              case atStart => exact ⟨(y257), (0), (by first | rfl | (simp; done) | (simp [*]; done)), H', ⟨Nat.le_refl _⟩, ⟨by (with_reducible repeat (first | apply Kd.R_alloc | apply Kd.R_drewN | apply Kd.R_drew)); exact HO259.out⟩, ⟨by repeat (first | (with_reducible first | exact HB.out | apply below_alloc | apply pw_below_drewN | apply below_drew1) | exact HB.out)⟩⟩
              case round =>
                clear H'
                try clear c1
                try clear p2
                try clear c4
                try clear c5
                try clear c7
                try clear c7b0
                try clear c8
                try clear c10
                try clear c10b0
                try clear c11
                try clear p2
                obtain ⟨x9_2, x10_2, rfl, HA, HK2, HO_9, HB⟩ := hrel
                cases gk with
                | zero => exact absurd HA.out (by simp [mailbagref9_Put.l0])
                | succ k2 =>
                  have H := HA.out
                  clear HA
                  simp only [mailbagref9_Put.l0] at H
                  by_cases c15 : x10_2 < (x9_2.length : Int)
                  · rw [if_pos c15] at H
                    have c15b0 : decide (x10_2 < (x9_2.length : Int)) = true := decide_eq_true c15
                    clear c15
                    by_cases c16 : 0 ≤ x10_2
                    · rw [if_pos c16] at H
                      have c16b0 : decide (0 ≤ x10_2) = true := decide_eq_true c16
                      clear c16
                      by_cases c17 : ((rd_T106 x9_2 x10_2).f0).toList = ([] : List UInt8)
                      · rw [if_pos c17] at H
                        have c17b0 : (((rd_T106 x9_2 x10_2).f0).toList == ([] : List UInt8)) = true := beq_iff_eq.mpr c17
                        have c17b1 : (((rd_T106 x9_2 x10_2).f0).toList != ([] : List UInt8)) = false := bne_eq_false_iff_eq.mpr c17
                        clear c17
                        obtain ⟨y261, hy261⟩ : ∃ y_ : List (S106), y_ = (x9_2.set (x10_2 : Int).toNat (⟨a1, a2⟩ : S106)) := ⟨_, rfl⟩
                        replace H : (some (y261, 0, 0)) = some (r1, r2, r3) := by first | (rw [hy261]; with_reducible exact H) | (have H2_ := (Option.bind_some _ _).symm.trans H; rw [hy261]; with_reducible exact H2_) | (have H2_ := (Option.bind_some _ _).symm.trans H; with_reducible exact H2_) | with_reducible exact H | (rw [hy261]; exact H) | exact H
                        have Ny261 := Aside0.mk hy261
                        clear hy261
                        simp only [Option.some.injEq, Prod.mk.injEq] at H
                        obtain ⟨rfl, rfl, rfl⟩ := H
                        obtain ⟨Ao19, co19, eo19⟩ := Kd.R_slice HO_9.out
                        subst eo19
                        have p260 : 0 ≤ (x10_2 : Int) := of_decide_eq_true (by first | (with_reducible assumption) | assumption)
                        have q260 : x10_2 < (x9_2.length : Int) := of_decide_eq_true (by first | (with_reducible assumption) | assumption)
                        obtain ⟨ad260, e260, hx260_0, hx260_1⟩ := at_T106 (Kd.R_reads' HO_9.out).2.2 x10_2 p260 q260
                        cases e260
                        replace p260 := eq_true p260
                        replace q260 := eq_true q260
                        have p18 : 0 ≤ (x10_2 : Int) := of_decide_eq_true (by first | (with_reducible assumption) | assumption)
                        have q18 : (x10_2 : Int) < ((x9_2.length : Int) : Int) := of_decide_eq_true (by first | (with_reducible assumption) | assumption)
                        obtain ⟨go18, co18, eo18, gb18, gl18, cl18, HG18⟩ := Kd.R_form HO_9.out (by omega)
                        (first | cases eo18 | (injection eo18 with ea_ en_ ec_; (first | subst ea_ | (injection ea_ with ea_; subst ea_)); subst ec_; clear en_))
                        have GB18 := Aside0.mk gb18
                        have GG18 := Aside0.mk HG18
                        clear gb18 gl18 HG18
                        (first | simp only [add_plain] at hx260_0 | skip)
                        (first | simp only [add_plain] at hx260_1 | skip)
                        obtain ⟨ce18, hcl18, hM18, hcc18, hfr18⟩ := Kd.R_elem HO_9.out z106 (x10_2 : Int) p18 q18
                        obtain rfl := k106_openM hM18
                        have hx18_0 : wr.cell? ⟨go18, (x10_2 : Int).toNat * 2, none⟩ = some (.string ((rd_T106 x9_2 x10_2).f0)) := hcc18 0 _ rfl
                        have hx18_1 : wr.cell? ⟨go18, (x10_2 : Int).toNat * 2 + 1, none⟩ = some (.int .i64 ((rd_T106 x9_2 x10_2).f1)) := hcc18 1 _ rfl
                        have hf18_0 : wr.frozen? ⟨go18, (x10_2 : Int).toNat * 2, none⟩ = false := hfr18 0
                        have hf18_1 : wr.frozen? ⟨go18, (x10_2 : Int).toNat * 2 + 1, none⟩ = false := hfr18 1
                        clear hcl18 hcc18 hfr18 hM18
                        replace p18 := eq_true p18
                        replace q18 := eq_true q18
                        have HX20 := Aside0.mk (show Kd.R k106 106 wr w.heap.size (fun _ => True) (.slice (some ⟨go18, 0, none⟩) x9_2.length co19) x9_2 from (by (with_reducible repeat (first | apply Kd.R_alloc | apply Kd.R_drewN | apply Kd.R_drew)); exact HO_9.out))
                        obtain ⟨ce20, hcl20, hM20, hcc20, hfr20⟩ := Kd.R_elem HX20.out z106 (x10_2 : Int) (of_decide_eq_true (by first | (with_reducible assumption) | assumption)) (by have h_ : (x10_2 : Int) < ((x9_2.length : Int) : Int) := of_decide_eq_true (by first | (with_reducible assumption) | assumption); first | exact h_ | (have e_ := (Kd.R_reads' HO_9.out).1; omega) | simpa using h_)
                        obtain rfl := k106_openM hM20
                        have HP20 := Kd.R_seg HX20.out (x10_2 : Int) (of_decide_eq_true (by first | (with_reducible assumption) | assumption)) (by have h_ : (x10_2 : Int) < ((x9_2.length : Int) : Int) := of_decide_eq_true (by first | (with_reducible assumption) | assumption); first | exact h_ | (have e_ := (Kd.R_reads' HO_9.out).1; omega) | simpa using h_) (seg := [.string a1, .int .i64 a2]) (j := 0) hcl20 hcc20 (show 2 ≤ 2 from by decide) (x' := (⟨a1, a2⟩ : S106)) (k106_mkM _ _ _ (⟨a1, a2⟩ : S106) ) (fun _ hk => hk)
                        have hx20_0 := hcc20 0 _ rfl
                        (try simp only [show (k106).sz = 2 from rfl, Nat.mul_one, Nat.add_zero] at hx20_0)
                        have hf20_0 := hfr20 0
                        (try simp only [show (k106).sz = 2 from rfl, Nat.mul_one, Nat.add_zero] at hf20_0)
                        have hx20_1 := hcc20 1 _ rfl
                        (try simp only [show (k106).sz = 2 from rfl, Nat.mul_one, Nat.add_zero] at hx20_1)
                        have hf20_1 := hfr20 1
                        (try simp only [show (k106).sz = 2 from rfl, Nat.mul_one, Nat.add_zero] at hf20_1)
                        clear hcl20 hcc20 hfr20 hM20
                        go_wp2_with (first | ((with_reducible refine gate_store (t := 106) (p := 47) rfl ?_); refine store_event (t := 106) (p := 47) (v := ?vo_w21) (w1 := ((wr.setCell ⟨go18, (x10_2 : Int).toNat * 2, none⟩ (.string a1)).setCell ⟨go18, (x10_2 : Int).toNat * 2 + 1, none⟩ (.int .i64 a2))) ?hg ?ho ?hn ?hr ?_; (case ho => rfl); (case hg => rfl); (case hn => rfl); (case hr => first | (go_simp; done) | (go_simp; rfl)); intro w21 hw; have hg : wr.grownBy w21 (some go18) := (by rw [hw]; exact HP20.2); have hp_ : Kd.R k106 106 w21 w.heap.size (fun _ => True) (.slice (some ⟨go18, 0, none⟩) x9_2.length co19) y261 := (by rw [hw, Ny261.out]; exact HP20.1); clear HP20; have n0_ := Aside0.mk (hp_); have n1_ := Aside0.mk ((by rw [hw]; exact below_set (below_set (HB.out) GB18.out) GB18.out : Below w.heap.size w w21)); clear HO_9; clear HB; have HO_9 := n0_; have HB := n1_; clear n0_ n1_; clear hg hw hp_))
                        go_ret3
                        exact ⟨_, by first | rfl | (simp [errW_none, errW_some] <;> rfl) | (simp [*, errW_none, errW_some] <;> rfl), by (with_reducible repeat (first | apply Kd.R_alloc | apply Kd.R_drewN | apply Kd.R_drew)); exact HO_9.out, by repeat (first | (with_reducible first | exact HB.out | apply below_alloc | apply pw_below_drewN | apply below_drew1) | exact HB.out)⟩
                      · rw [if_neg c17] at H
                        have c17b0 : (((rd_T106 x9_2 x10_2).f0).toList == ([] : List UInt8)) = false := beq_eq_false_iff_ne.mpr c17
                        have c17b1 : (((rd_T106 x9_2 x10_2).f0).toList != ([] : List UInt8)) = true := bne_iff_ne.mpr c17
                        have H' := Aside0.mk H
                        clear H
                        obtain ⟨Ao22, co22, eo22⟩ := Kd.R_slice HO_9.out
                        subst eo22
                        have p260 : 0 ≤ (x10_2 : Int) := of_decide_eq_true (by first | (with_reducible assumption) | assumption)
                        have q260 : x10_2 < (x9_2.length : Int) := of_decide_eq_true (by first | (with_reducible assumption) | assumption)
                        obtain ⟨ad260, e260, hx260_0, hx260_1⟩ := at_T106 (Kd.R_reads' HO_9.out).2.2 x10_2 p260 q260
                        cases e260
                        replace p260 := eq_true p260
                        replace q260 := eq_true q260
                        go_wp2
                        go_roundg k2
                        case measure => have := HJ5.out; have := HK2.out; omega
                        case rel => exact ⟨(x9_2), (wrap64 (x10_2 + 1)), (by first | rfl | (simp; done) | (simp [*]; done)), H', ⟨by have := HJ5.out; have := HK2.out; omega⟩, ⟨by (with_reducible repeat (first | apply Kd.R_alloc | apply Kd.R_drewN | apply Kd.R_drew)); exact HO_9.out⟩, ⟨by repeat (first | (with_reducible first | exact HB.out | apply below_alloc | apply pw_below_drewN | apply below_drew1) | exact HB.out)⟩⟩
                    · rw [if_neg c16] at H
                      exact absurd H (by simp)
                  · rw [if_neg c15] at H
                    have c15b0 : decide (x10_2 < (x9_2.length : Int)) = false := decide_eq_false c15
                    clear c15
                    by_cases c23 : x9_2.length < 5864062014805
                    · rw [if_pos c23] at H
                      have LMc23 := Aside0.mk c23
                      clear c23
                      obtain ⟨y262, hy262⟩ : ∃ y_ : List (S106), y_ = (x9_2 ++ [(⟨a1, a2⟩ : S106)]) := ⟨_, rfl⟩
                      replace H : ((mailbagref9_Size.f y262).bind fun t265 => ((mailbagref9_Size.f l0).bind fun t266 => (some (y262, wrap64 (t265 - t266), 0)))) = some (r1, r2, r3) := by first | (rw [hy262]; with_reducible exact H) | (have H2_ := (Option.bind_some _ _).symm.trans H; rw [hy262]; with_reducible exact H2_) | (have H2_ := (Option.bind_some _ _).symm.trans H; with_reducible exact H2_) | with_reducible exact H | (rw [hy262]; exact H) | exact H
                      have Ny262 := Aside0.mk hy262
                      clear hy262
                      replace H := Option.bind_eq_some_iff.mp H
                      obtain ⟨t265, A240, H⟩ := H
                      replace H : ((mailbagref9_Size.f l0).bind fun t266 => (some (y262, wrap64 (t265 - t266), 0))) = some (r1, r2, r3) := H
                      have A24 := Aside0.mk A240
                      clear A240
                      replace H := Option.bind_eq_some_iff.mp H
                      obtain ⟨t266, A250, H⟩ := H
                      replace H : (some (y262, wrap64 (t265 - t266), 0)) = some (r1, r2, r3) := H
                      have A25 := Aside0.mk A250
                      clear A250
                      simp only [Option.some.injEq, Prod.mk.injEq] at H
                      obtain ⟨rfl, rfl, rfl⟩ := H
                      obtain ⟨Ao26, co26, eo26⟩ := Kd.R_slice HO_9.out
                      subst eo26
                      go_wp2_with (first | ((with_reducible refine gate_builtin (b := .append) (xs := #[.tmp 49, .tmp 53]) rfl ?_); at_builtin; refine Kd.R_append k106 (w0 := w) w.heap.size rfl (.tmp 49) (.tmp 53) 56 106 (.agg #[(.string ⟨#[]⟩), (.int .i64 0)]) 24 rfl Tryz.underlying56 info106 rfl (by decide) (by omega) (.slice Ao26 x9_2.length co26) x9_2 (⟨a1, a2⟩ : S106) [.string a1, .int .i64 a2] (fun _ => True) (fun _ => False) rfl rfl ?aP (fun _ hk => hk.elim) ?aF ?aO ?aB ?aS ?aL ?_; (case aP => exact k106_mkM _ _ _ (⟨a1, a2⟩ : S106)); (case aB => exact (by repeat (first | (with_reducible first | exact HB.out | apply below_alloc | apply pw_below_drewN | apply below_drew1) | exact HB.out))); (case aF => exact (fun _ _ => trivial)); (case aO => exact (by (with_reducible repeat (first | apply Kd.R_alloc | apply Kd.R_drewN | apply Kd.R_drew)); exact HO_9.out)); (case aS => exact (below_size (by repeat (first | (with_reducible first | exact HB.out | apply below_alloc | apply pw_below_drewN | apply below_drew1) | exact HB.out)))); (case aL => have := LMc23.out; omega); intro v263 w27 ho hb hg hat; rw [← Ny262.out] at ho; have n0_ := Aside0.mk (hb); have n1_ := Aside0.mk (ho); clear HB; clear HO_9; have HB := n0_; have HO264 := n1_; clear n0_ n1_; clear ho hb hg hat; obtain ⟨Ao28, co28, eo28⟩ := Kd.R_slice HO264.out; subst eo28) | ((with_reducible refine gate_callee (f := 82) rfl ?_); refine goesL_ (some 57) rfl rfl Tryz.func82 (by kernel_rfl) rfl #[.slice Ao28 y262.length co28] rfl (by (try simp only [List.map_toArray, List.map_cons, List.map_nil]); first | done | rfl | (simp only [List.length_drop, List.length_take]; rfl)) ?_; (with_reducible refine (mailbagref9_Size.calls _ _ y262 t265 _ ?side1 ?side2 A24.out).mono ?_); (case side1 => repeat (first | exact (Kd.R_reads' HO264.out).2.2 | (with_reducible refine Kd.C_alloc ?_ _) | (with_reducible refine Kd.C_drewN ?_ _) | (with_reducible refine Kd.C_drew ?_))); (case side2 => exact (Kd.R_reads' HO264.out).2.1); rintro e w' ⟨rfl, ⟨nd, rfl⟩⟩; refine ⟨_, rfl, ?_⟩) | ((with_reducible refine gate_callee (f := 82) rfl ?_); refine goesL_ (some 59) rfl rfl Tryz.func82 (by kernel_rfl) rfl #[.slice A0 l0.length c0] rfl (by (try simp only [List.map_toArray, List.map_cons, List.map_nil]); first | done | rfl | (simp only [List.length_drop, List.length_take]; rfl)) ?_; (with_reducible refine (mailbagref9_Size.calls _ _ l0 t266 _ ?side1 ?side2 A25.out).mono ?_); (case side1 => repeat (first | exact (Kd.C_below HR0.out (by repeat (first | (with_reducible first | exact HB.out | apply below_alloc | apply pw_below_drewN | apply below_drew1) | exact HB.out))) | (with_reducible refine Kd.C_alloc ?_ _) | (with_reducible refine Kd.C_drewN ?_ _) | (with_reducible refine Kd.C_drew ?_))); (case side2 => exact HC0.out); rintro e w' ⟨rfl, ⟨nd, rfl⟩⟩; refine ⟨_, rfl, ?_⟩))
                      go_ret3
                      exact ⟨_, by first | rfl | (simp [errW_none, errW_some] <;> rfl) | (simp [*, errW_none, errW_some] <;> rfl), by (with_reducible repeat (first | apply Kd.R_alloc | apply Kd.R_drewN | apply Kd.R_drew)); exact HO264.out, by repeat (first | (with_reducible first | exact HB.out | apply below_alloc | apply pw_below_drewN | apply below_drew1) | exact HB.out)⟩
                    · rw [if_neg c23] at H
                      exact absurd H (by simp)
            · rw [if_neg c11] at H
              exact absurd H (by simp)
  · replace c5 := Bool.eq_false_iff.mpr c5
    subst c5
    have H1 : (some (([] : List (S106)), 0, 12)) = some (r1, r2, r3) := by rw [if_neg (show ¬ (false = true) by decide)] at H; exact H
    clear H
    have H := H1
    clear H1
    simp only [Option.some.injEq, Prod.mk.injEq] at H
    obtain ⟨rfl, rfl, rfl⟩ := H
    go_enter Tryz.func45, Tryz.ntmps45
    go_wp2_with (first | ((with_reducible refine gate_callee (f := 42) rfl ?_); refine goesL_ (some 13) rfl rfl Tryz.func42 (by kernel_rfl) rfl #[.string a1] rfl (by (try simp only [List.map_toArray, List.map_cons, List.map_nil]); first | done | rfl | (simp only [List.length_drop, List.length_take]; rfl)) ?_; (with_reducible refine (mailbagref9_Name.calls k a1 false _ A4.out).mono ?_); rintro e w' ⟨rfl, ⟨nd, rfl⟩⟩; refine ⟨_, rfl, ?_⟩))
    go_ret3
    exact ⟨_, by first | rfl | (simp [errW_none, errW_some] <;> rfl) | (simp [*, errW_none, errW_some] <;> rfl), by first | exact Kd.R_nil _ _ _ _ _ | exact Kd.N_nil _ _ _ _ _ | exact Kd.V_nil _ _ _ _ _ | exact Kd.Q_nil _ _ _ _ _ | exact Kd.S_nil _ _ _ _ _, by repeat (first | (with_reducible first | exact HB.out | apply below_alloc | apply pw_below_drewN | apply below_drew1) | exact HB.out)⟩
def mailbagref9_Take.f (k : Nat) (l0 : List (S106)) (a1 : ByteArray) : Option ((List (S106)) × Int × Int) := (mailbagref9_At.f k l0 a1).bind fun t376 => (if t376 < 0 then (some (([] : List (S106)), 0, 8)) else ((some (([] : List (S106)) : List (S106))).bind fun y377 => (if y377.length + l0.length < 5864062014805 then ((some (y377 ++ l0 : List (S106))).bind fun y380 => (if 0 ≤ t376 then (if t376 < (y380.length : Int) then (if t376 < (l0.length : Int) then (some ((y380.set (t376 : Int).toNat (⟨(⟨#[]⟩ : ByteArray), 0⟩ : S106)), (rd_T106 l0 t376).f1, 0)) else (none)) else (none)) else (none))) else (none))))
set_option maxHeartbeats 8000000 in
set_option maxRecDepth 100000 in
theorem mailbagref9_Take.calls (k : Nat) (A0 : Option Addr) (c0 : Nat) (l0 : List (S106)) (a1 : ByteArray) (r1 : List (S106)) (r2 : Int) (r3 : Int) (w : World) (hr0 : Kd.C k106 w A0 l0.length l0) (hc0 : l0.length ≤ c0) (h : mailbagref9_Take.f k l0 a1 = some (r1, r2, r3)) :
    Calls Tryz.prog 52 #[.slice A0 l0.length c0, .string a1] w fun e w' => ∃ v0_ : Value, e = .returned (.tuple #[v0_, .int .i64 r2, .int .i64 r3]) ∧ Kd.R k106 106 w' w.heap.size (fun _ => True) v0_ r1 ∧ Below w.heap.size w w' := by
  have hu106 := Tryz.underlying106
  have HR0 := Aside0.mk hr0
  have HC0 := Aside0.mk hc0
  clear hr0 hc0
  have HB := Aside0.mk (Below.refl w.heap.size w)
  have H : ((mailbagref9_At.f k l0 a1).bind fun t376 => (if t376 < 0 then (some (([] : List (S106)), 0, 8)) else ((some (([] : List (S106)) : List (S106))).bind fun y377 => (if y377.length + l0.length < 5864062014805 then ((some (y377 ++ l0 : List (S106))).bind fun y380 => (if 0 ≤ t376 then (if t376 < (y380.length : Int) then (if t376 < (l0.length : Int) then (some ((y380.set (t376 : Int).toNat (⟨(⟨#[]⟩ : ByteArray), 0⟩ : S106)), (rd_T106 l0 t376).f1, 0)) else (none)) else (none)) else (none))) else (none))))) = some (r1, r2, r3) := h
  clear h
  replace H := Option.bind_eq_some_iff.mp H
  obtain ⟨t376, A30, H⟩ := H
  replace H : (if t376 < 0 then (some (([] : List (S106)), 0, 8)) else ((some (([] : List (S106)) : List (S106))).bind fun y377 => (if y377.length + l0.length < 5864062014805 then ((some (y377 ++ l0 : List (S106))).bind fun y380 => (if 0 ≤ t376 then (if t376 < (y380.length : Int) then (if t376 < (l0.length : Int) then (some ((y380.set (t376 : Int).toNat (⟨(⟨#[]⟩ : ByteArray), 0⟩ : S106)), (rd_T106 l0 t376).f1, 0)) else (none)) else (none)) else (none))) else (none)))) = some (r1, r2, r3) := H
  have A3 := Aside0.mk A30
  clear A30
  by_cases c4 : t376 < 0
  · rw [if_pos c4] at H
    have c4b0 : decide (t376 < 0) = true := decide_eq_true c4
    clear c4
    simp only [Option.some.injEq, Prod.mk.injEq] at H
    obtain ⟨rfl, rfl, rfl⟩ := H
    go_enter Tryz.func52, Tryz.ntmps52
    go_wp2_with (first | (go_at_call 44; (with_reducible refine (mailbagref9_At.calls k _ _ l0 a1 t376 _ ?side1 ?side2 A3.out).mono ?_); (case side1 => repeat (first | exact HR0.out | (with_reducible refine Kd.C_alloc ?_ _) | (with_reducible refine Kd.C_drewN ?_ _) | (with_reducible refine Kd.C_drew ?_))); (case side2 => exact HC0.out); rintro e w' ⟨rfl, ⟨nd, rfl⟩⟩; (try first | exact ⟨rfl, _, World.drewN_drewN _ _ _⟩ | exact ⟨rfl, _, Eq.trans (World.drewN_drewN _ _ _) (congrArg (World.drewN _) (Nat.add_assoc _ _ _))⟩)))
    repeat (go_quiet (first | (go_at_call 44; (with_reducible refine (mailbagref9_At.calls k _ _ l0 a1 t376 _ ?side1 ?side2 A3.out).mono ?_); (case side1 => repeat (first | exact HR0.out | (with_reducible refine Kd.C_alloc ?_ _) | (with_reducible refine Kd.C_drewN ?_ _) | (with_reducible refine Kd.C_drew ?_))); (case side2 => exact HC0.out); rintro e w' ⟨rfl, ⟨nd, rfl⟩⟩; (try first | exact ⟨rfl, _, World.drewN_drewN _ _ _⟩ | exact ⟨rfl, _, Eq.trans (World.drewN_drewN _ _ _) (congrArg (World.drewN _) (Nat.add_assoc _ _ _))⟩))); try go_wp2_with (first | (go_at_call 44; (with_reducible refine (mailbagref9_At.calls k _ _ l0 a1 t376 _ ?side1 ?side2 A3.out).mono ?_); (case side1 => repeat (first | exact HR0.out | (with_reducible refine Kd.C_alloc ?_ _) | (with_reducible refine Kd.C_drewN ?_ _) | (with_reducible refine Kd.C_drew ?_))); (case side2 => exact HC0.out); rintro e w' ⟨rfl, ⟨nd, rfl⟩⟩; (try first | exact ⟨rfl, _, World.drewN_drewN _ _ _⟩ | exact ⟨rfl, _, Eq.trans (World.drewN_drewN _ _ _) (congrArg (World.drewN _) (Nat.add_assoc _ _ _))⟩))))
    go_ret3
    exact ⟨_, by first | rfl | (simp [errW_none, errW_some] <;> rfl) | (simp [*, errW_none, errW_some] <;> rfl), by first | exact Kd.R_nil _ _ _ _ _ | exact Kd.N_nil _ _ _ _ _ | exact Kd.V_nil _ _ _ _ _ | exact Kd.Q_nil _ _ _ _ _ | exact Kd.S_nil _ _ _ _ _, by repeat (first | (with_reducible first | exact HB.out | apply below_alloc | apply pw_below_drewN | apply below_drew1) | exact HB.out)⟩
  · rw [if_neg c4] at H
    have c4b0 : decide (t376 < 0) = false := decide_eq_false c4
    clear c4
    obtain ⟨y377, hy377⟩ : ∃ y_ : List (S106), y_ = (([] : List (S106))) := ⟨_, rfl⟩
    replace H : (if y377.length + l0.length < 5864062014805 then ((some (y377 ++ l0 : List (S106))).bind fun y380 => (if 0 ≤ t376 then (if t376 < (y380.length : Int) then (if t376 < (l0.length : Int) then (some ((y380.set (t376 : Int).toNat (⟨(⟨#[]⟩ : ByteArray), 0⟩ : S106)), (rd_T106 l0 t376).f1, 0)) else (none)) else (none)) else (none))) else (none)) = some (r1, r2, r3) := by first | (rw [hy377]; with_reducible exact H) | (have H2_ := (Option.bind_some _ _).symm.trans H; rw [hy377]; with_reducible exact H2_) | (have H2_ := (Option.bind_some _ _).symm.trans H; with_reducible exact H2_) | with_reducible exact H | (rw [hy377]; exact H) | exact H
    have Ny377 := Aside0.mk hy377
    clear hy377
    by_cases c5 : y377.length + l0.length < 5864062014805
    · rw [if_pos c5] at H
      have LMc5 := Aside0.mk c5
      clear c5
      obtain ⟨y380, hy380⟩ : ∃ y_ : List (S106), y_ = (y377 ++ l0) := ⟨_, rfl⟩
      replace H : (if 0 ≤ t376 then (if t376 < (y380.length : Int) then (if t376 < (l0.length : Int) then (some ((y380.set (t376 : Int).toNat (⟨(⟨#[]⟩ : ByteArray), 0⟩ : S106)), (rd_T106 l0 t376).f1, 0)) else (none)) else (none)) else (none)) = some (r1, r2, r3) := by first | (rw [hy380]; with_reducible exact H) | (have H2_ := (Option.bind_some _ _).symm.trans H; rw [hy380]; with_reducible exact H2_) | (have H2_ := (Option.bind_some _ _).symm.trans H; with_reducible exact H2_) | with_reducible exact H | (rw [hy380]; exact H) | exact H
      have Ny380 := Aside0.mk hy380
      clear hy380
      by_cases c6 : 0 ≤ t376
      · rw [if_pos c6] at H
        have c6b0 : decide (0 ≤ t376) = true := decide_eq_true c6
        clear c6
        by_cases c7 : t376 < (y380.length : Int)
        · rw [if_pos c7] at H
          have c7b0 : decide (t376 < (y380.length : Int)) = true := decide_eq_true c7
          clear c7
          obtain ⟨y383, hy383⟩ : ∃ y_ : List (S106), y_ = (y380.set (t376 : Int).toNat (⟨(⟨#[]⟩ : ByteArray), 0⟩ : S106)) := ⟨_, rfl⟩
          replace H : (if t376 < (l0.length : Int) then (some (y383, (rd_T106 l0 t376).f1, 0)) else (none)) = some (r1, r2, r3) := by first | (rw [hy383]; with_reducible exact H) | (have H2_ := (Option.bind_some _ _).symm.trans H; rw [hy383]; with_reducible exact H2_) | (have H2_ := (Option.bind_some _ _).symm.trans H; with_reducible exact H2_) | with_reducible exact H | (rw [hy383]; exact H) | exact H
          have Ny383 := Aside0.mk hy383
          clear hy383
          by_cases c9 : t376 < (l0.length : Int)
          · rw [if_pos c9] at H
            have c9b0 : decide (t376 < (l0.length : Int)) = true := decide_eq_true c9
            clear c9
            simp only [Option.some.injEq, Prod.mk.injEq] at H
            obtain ⟨rfl, rfl, rfl⟩ := H
            go_enter Tryz.func52, Tryz.ntmps52
            go_wp2_with (first | (go_at_call 44; (with_reducible refine (mailbagref9_At.calls k _ _ l0 a1 t376 _ ?side1 ?side2 A3.out).mono ?_); (case side1 => repeat (first | exact HR0.out | (with_reducible refine Kd.C_alloc ?_ _) | (with_reducible refine Kd.C_drewN ?_ _) | (with_reducible refine Kd.C_drew ?_))); (case side2 => exact HC0.out); rintro e w' ⟨rfl, ⟨nd, rfl⟩⟩; (try first | exact ⟨rfl, _, World.drewN_drewN _ _ _⟩ | exact ⟨rfl, _, Eq.trans (World.drewN_drewN _ _ _) (congrArg (World.drewN _) (Nat.add_assoc _ _ _))⟩)) | ((with_reducible refine gate_dst (N := 14) rfl ?_); refine Kd.R_lit k106 _ 106 ?hg (N := 14) ?hd (xs := ([] : List (S106))) (inner := []) (ok := fun _ => True) (okp := fun _ => True) ?hr ?hp (fun _ hk => hk) trivial (Below.refl _ _) (Nat.le_refl _) (by simp) ?_; (case hd => rfl); (case hg => rfl); (case hr => first | (go_simp; done) | (go_simp; rfl)); (case hp => exact (Reps.none _ _)); intro v378 w10 ho11 hb hg_ hnew_; clear hg_ hnew_; (first | rw [← Ny377.out] at ho11 | (simp only [Int.reduceToNat] at ho11; rw [← Ny377.out] at ho11)); have n0_ := Aside0.mk (Kd.R_lower ho11 (below_size (by repeat (first | (with_reducible first | exact HB.out | apply below_alloc | apply pw_below_drewN | apply below_drew1) | exact HB.out)))); have n1_ := Aside0.mk (below_step (by repeat (first | (with_reducible first | exact HB.out | apply below_alloc | apply pw_below_drewN | apply below_drew1) | exact HB.out)) hb); clear HB; have HO379 := n0_; have HB := n1_; clear n0_ n1_; clear hb ho11) | ((with_reducible refine gate_builtin (b := .append) (xs := #[.tmp 14, .tmp 15]) rfl ?_); at_builtin; refine Kd.R_append_rows k106 (w0 := w) w.heap.size rfl (.tmp 14) (.tmp 15) 56 106 (.agg #[(.string ⟨#[]⟩), (.int .i64 0)]) 24 rfl Tryz.underlying56 info106 rfl (by decide) (by omega) v378 y377 l0 _ _ _ (fun _ => True) (fun _ => False) rfl rfl ?aO ?aR (fun _ _ h => h) (fun _ h => h.elim) ?aF ?aB ?aS ?aL ?_; (case aR => repeat (first | exact (Kd.C_below HR0.out HB.out) | (with_reducible refine Kd.C_alloc ?_ _) | (with_reducible refine Kd.C_drewN ?_ _) | (with_reducible refine Kd.C_drew ?_))); (case aB => exact (by repeat (first | (with_reducible first | exact HB.out | apply below_alloc | apply pw_below_drewN | apply below_drew1) | exact HB.out))); (case aF => exact (fun _ _ => trivial)); (case aO => exact (by (with_reducible repeat (first | apply Kd.R_alloc | apply Kd.R_drewN | apply Kd.R_drew)); exact HO379.out)); (case aS => exact (below_size (by repeat (first | (with_reducible first | exact HB.out | apply below_alloc | apply pw_below_drewN | apply below_drew1) | exact HB.out)))); (case aL => have := LMc5.out; omega); intro v381 w12 ho hb hg hat; rw [← Ny380.out] at ho; have n0_ := Aside0.mk (hb); have n1_ := Aside0.mk (ho); clear HB; clear HO379; have HB := n0_; have HO382 := n1_; clear n0_ n1_; clear ho hb hg hat; have p8 : 0 ≤ (t376 : Int) := of_decide_eq_true (by first | (with_reducible assumption) | assumption); have q8 : (t376 : Int) < ((y380.length : Int) : Int) := of_decide_eq_true (by first | (with_reducible assumption) | assumption); obtain ⟨go8, co8, eo8, gb8, gl8, cl8, HG8⟩ := Kd.R_form HO382.out (by omega); (first | cases eo8 | (injection eo8 with ea_ en_ ec_; (first | subst ea_ | (injection ea_ with ea_; subst ea_)); subst ec_; clear en_)); have GB8 := Aside0.mk gb8; have GG8 := Aside0.mk HG8; clear gb8 gl8 HG8; obtain ⟨ce8, hcl8, hM8, hcc8, hfr8⟩ := Kd.R_elem HO382.out z106 (t376 : Int) p8 q8; obtain rfl := k106_openM hM8; have hx8_0 : w12.cell? ⟨go8, (t376 : Int).toNat * 2, none⟩ = some (.string ((rd_T106 y380 t376).f0)) := hcc8 0 _ rfl; have hx8_1 : w12.cell? ⟨go8, (t376 : Int).toNat * 2 + 1, none⟩ = some (.int .i64 ((rd_T106 y380 t376).f1)) := hcc8 1 _ rfl; have hf8_0 : w12.frozen? ⟨go8, (t376 : Int).toNat * 2, none⟩ = false := hfr8 0; have hf8_1 : w12.frozen? ⟨go8, (t376 : Int).toNat * 2 + 1, none⟩ = false := hfr8 1; clear hcl8 hcc8 hfr8 hM8; replace p8 := eq_true p8; replace q8 := eq_true q8; have HX13 := Aside0.mk (show Kd.R k106 106 w12 w.heap.size (fun _ => True) (.slice (some ⟨go8, 0, none⟩) y380.length co8) y380 from (by (with_reducible repeat (first | apply Kd.R_alloc | apply Kd.R_drewN | apply Kd.R_drew)); exact HO382.out)); obtain ⟨ce13, hcl13, hM13, hcc13, hfr13⟩ := Kd.R_elem HX13.out z106 (t376 : Int) (of_decide_eq_true (by first | (with_reducible assumption) | assumption)) (by have h_ : (t376 : Int) < ((y380.length : Int) : Int) := of_decide_eq_true (by first | (with_reducible assumption) | assumption); first | exact h_ | (have e_ := (Kd.R_reads' HO382.out).1; omega) | simpa using h_); obtain rfl := k106_openM hM13; have HP13 := Kd.R_seg HX13.out (t376 : Int) (of_decide_eq_true (by first | (with_reducible assumption) | assumption)) (by have h_ : (t376 : Int) < ((y380.length : Int) : Int) := of_decide_eq_true (by first | (with_reducible assumption) | assumption); first | exact h_ | (have e_ := (Kd.R_reads' HO382.out).1; omega) | simpa using h_) (seg := [.string (⟨#[]⟩ : ByteArray), .int .i64 0]) (j := 0) hcl13 hcc13 (show 2 ≤ 2 from by decide) (x' := (⟨(⟨#[]⟩ : ByteArray), 0⟩ : S106)) (k106_mkM _ _ _ (⟨(⟨#[]⟩ : ByteArray), 0⟩ : S106) ) (fun _ hk => hk); have hx13_0 := hcc13 0 _ rfl; (try simp only [show (k106).sz = 2 from rfl, Nat.mul_one, Nat.add_zero] at hx13_0); have hf13_0 := hfr13 0; (try simp only [show (k106).sz = 2 from rfl, Nat.mul_one, Nat.add_zero] at hf13_0); have hx13_1 := hcc13 1 _ rfl; (try simp only [show (k106).sz = 2 from rfl, Nat.mul_one, Nat.add_zero] at hx13_1); have hf13_1 := hfr13 1; (try simp only [show (k106).sz = 2 from rfl, Nat.mul_one, Nat.add_zero] at hf13_1); clear hcl13 hcc13 hfr13 hM13) | ((with_reducible refine gate_store (t := 106) (p := 20) rfl ?_); (try (rw [drewN_self w12]; generalize hq_ : World.drewN w12 _ = w12; have n0_ := Aside0.mk (Kd.R_at hq_ HO382.out); have n1_ := Aside0.mk (below_at hq_ HB.out); clear hq_ HO382 HB; have HO382 := n0_; have HB := n1_; clear n0_ n1_; (try (have HX13 := Aside0.mk (show Kd.R k106 106 w12 w.heap.size (fun _ => True) (.slice (some ⟨go8, 0, none⟩) y380.length co8) y380 from (by (with_reducible repeat (first | apply Kd.R_alloc | apply Kd.R_drewN | apply Kd.R_drew)); exact HO382.out)))); (try (obtain ⟨ce13, hcl13, hM13, hcc13, hfr13⟩ := Kd.R_elem HX13.out z106 (t376 : Int) (of_decide_eq_true (by first | (with_reducible assumption) | assumption)) (by have h_ : (t376 : Int) < ((y380.length : Int) : Int) := of_decide_eq_true (by first | (with_reducible assumption) | assumption); first | exact h_ | (have e_ := (Kd.R_reads' HO382.out).1; omega) | simpa using h_))); (try (obtain rfl := k106_openM hM13)); (try (have HP13 := Kd.R_seg HX13.out (t376 : Int) (of_decide_eq_true (by first | (with_reducible assumption) | assumption)) (by have h_ : (t376 : Int) < ((y380.length : Int) : Int) := of_decide_eq_true (by first | (with_reducible assumption) | assumption); first | exact h_ | (have e_ := (Kd.R_reads' HO382.out).1; omega) | simpa using h_) (seg := [.string (⟨#[]⟩ : ByteArray), .int .i64 0]) (j := 0) hcl13 hcc13 (show 2 ≤ 2 from by decide) (x' := (⟨(⟨#[]⟩ : ByteArray), 0⟩ : S106)) (k106_mkM _ _ _ (⟨(⟨#[]⟩ : ByteArray), 0⟩ : S106) ) (fun _ hk => hk))); (try (have hx13_0 := hcc13 0 _ rfl)); (try (try simp only [show (k106).sz = 2 from rfl, Nat.mul_one, Nat.add_zero] at hx13_0)); (try (have hf13_0 := hfr13 0)); (try (try simp only [show (k106).sz = 2 from rfl, Nat.mul_one, Nat.add_zero] at hf13_0)); (try (have hx13_1 := hcc13 1 _ rfl)); (try (try simp only [show (k106).sz = 2 from rfl, Nat.mul_one, Nat.add_zero] at hx13_1)); (try (have hf13_1 := hfr13 1)); (try (try simp only [show (k106).sz = 2 from rfl, Nat.mul_one, Nat.add_zero] at hf13_1)); (try (clear hcl13 hcc13 hfr13 hM13)))); refine store_event (t := 106) (p := 20) (v := ?vo_w14) (w1 := ((w12.setCell ⟨go8, (t376 : Int).toNat * 2, none⟩ (.string (⟨#[]⟩ : ByteArray))).setCell ⟨go8, (t376 : Int).toNat * 2 + 1, none⟩ (.int .i64 0))) ?hg ?ho ?hn ?hr ?_; (case ho => rfl); (case hg => rfl); (case hn => rfl); (case hr => first | (go_simp; done) | (go_simp; rfl)); intro w14 hw; have hg : w12.grownBy w14 (some go8) := (by rw [hw]; exact HP13.2); have hp_ : Kd.R k106 106 w14 w.heap.size (fun _ => True) (.slice (some ⟨go8, 0, none⟩) y380.length co8) y383 := (by rw [hw, Ny383.out]; exact HP13.1); clear HP13; have n0_ := Aside0.mk (hp_); have n1_ := Aside0.mk ((by rw [hw]; exact below_set (below_set (HB.out) GB8.out) GB8.out : Below w.heap.size w w14)); clear HO382; clear HB; have HO382 := n0_; have HB := n1_; clear n0_ n1_; clear hg hw hp_; have p384 : 0 ≤ (t376 : Int) := of_decide_eq_true (by first | (with_reducible assumption) | assumption); have q384 : t376 < (l0.length : Int) := of_decide_eq_true (by first | (with_reducible assumption) | assumption); obtain ⟨ad384, e384, hx384_0, hx384_1⟩ := at_T106 HR0.out t376 p384 q384; cases e384; replace hx384_0 := (HB.out.cell (World.block_lt_of_cell? w _ hx384_0)).trans hx384_0; replace hx384_1 := (HB.out.cell (World.block_lt_of_cell? w _ hx384_1)).trans hx384_1; replace p384 := eq_true p384; replace q384 := eq_true q384))
            repeat (go_quiet (first | (go_at_call 44; (with_reducible refine (mailbagref9_At.calls k _ _ l0 a1 t376 _ ?side1 ?side2 A3.out).mono ?_); (case side1 => repeat (first | exact HR0.out | (with_reducible refine Kd.C_alloc ?_ _) | (with_reducible refine Kd.C_drewN ?_ _) | (with_reducible refine Kd.C_drew ?_))); (case side2 => exact HC0.out); rintro e w' ⟨rfl, ⟨nd, rfl⟩⟩; (try first | exact ⟨rfl, _, World.drewN_drewN _ _ _⟩ | exact ⟨rfl, _, Eq.trans (World.drewN_drewN _ _ _) (congrArg (World.drewN _) (Nat.add_assoc _ _ _))⟩)) | ((with_reducible refine gate_dst (N := 14) rfl ?_); refine Kd.R_lit k106 _ 106 ?hg (N := 14) ?hd (xs := ([] : List (S106))) (inner := []) (ok := fun _ => True) (okp := fun _ => True) ?hr ?hp (fun _ hk => hk) trivial (Below.refl _ _) (Nat.le_refl _) (by simp) ?_; (case hd => rfl); (case hg => rfl); (case hr => first | (go_simp; done) | (go_simp; rfl)); (case hp => exact (Reps.none _ _)); intro v378 w10 ho11 hb hg_ hnew_; clear hg_ hnew_; (first | rw [← Ny377.out] at ho11 | (simp only [Int.reduceToNat] at ho11; rw [← Ny377.out] at ho11)); have n0_ := Aside0.mk (Kd.R_lower ho11 (below_size (by repeat (first | (with_reducible first | exact HB.out | apply below_alloc | apply pw_below_drewN | apply below_drew1) | exact HB.out)))); have n1_ := Aside0.mk (below_step (by repeat (first | (with_reducible first | exact HB.out | apply below_alloc | apply pw_below_drewN | apply below_drew1) | exact HB.out)) hb); clear HB; have HO379 := n0_; have HB := n1_; clear n0_ n1_; clear hb ho11) | ((with_reducible refine gate_builtin (b := .append) (xs := #[.tmp 14, .tmp 15]) rfl ?_); at_builtin; refine Kd.R_append_rows k106 (w0 := w) w.heap.size rfl (.tmp 14) (.tmp 15) 56 106 (.agg #[(.string ⟨#[]⟩), (.int .i64 0)]) 24 rfl Tryz.underlying56 info106 rfl (by decide) (by omega) v378 y377 l0 _ _ _ (fun _ => True) (fun _ => False) rfl rfl ?aO ?aR (fun _ _ h => h) (fun _ h => h.elim) ?aF ?aB ?aS ?aL ?_; (case aR => repeat (first | exact (Kd.C_below HR0.out HB.out) | (with_reducible refine Kd.C_alloc ?_ _) | (with_reducible refine Kd.C_drewN ?_ _) | (with_reducible refine Kd.C_drew ?_))); (case aB => exact (by repeat (first | (with_reducible first | exact HB.out | apply below_alloc | apply pw_below_drewN | apply below_drew1) | exact HB.out))); (case aF => exact (fun _ _ => trivial)); (case aO => exact (by (with_reducible repeat (first | apply Kd.R_alloc | apply Kd.R_drewN | apply Kd.R_drew)); exact HO379.out)); (case aS => exact (below_size (by repeat (first | (with_reducible first | exact HB.out | apply below_alloc | apply pw_below_drewN | apply below_drew1) | exact HB.out)))); (case aL => have := LMc5.out; omega); intro v381 w12 ho hb hg hat; rw [← Ny380.out] at ho; have n0_ := Aside0.mk (hb); have n1_ := Aside0.mk (ho); clear HB; clear HO379; have HB := n0_; have HO382 := n1_; clear n0_ n1_; clear ho hb hg hat; have p8 : 0 ≤ (t376 : Int) := of_decide_eq_true (by first | (with_reducible assumption) | assumption); have q8 : (t376 : Int) < ((y380.length : Int) : Int) := of_decide_eq_true (by first | (with_reducible assumption) | assumption); obtain ⟨go8, co8, eo8, gb8, gl8, cl8, HG8⟩ := Kd.R_form HO382.out (by omega); (first | cases eo8 | (injection eo8 with ea_ en_ ec_; (first | subst ea_ | (injection ea_ with ea_; subst ea_)); subst ec_; clear en_)); have GB8 := Aside0.mk gb8; have GG8 := Aside0.mk HG8; clear gb8 gl8 HG8; obtain ⟨ce8, hcl8, hM8, hcc8, hfr8⟩ := Kd.R_elem HO382.out z106 (t376 : Int) p8 q8; obtain rfl := k106_openM hM8; have hx8_0 : w12.cell? ⟨go8, (t376 : Int).toNat * 2, none⟩ = some (.string ((rd_T106 y380 t376).f0)) := hcc8 0 _ rfl; have hx8_1 : w12.cell? ⟨go8, (t376 : Int).toNat * 2 + 1, none⟩ = some (.int .i64 ((rd_T106 y380 t376).f1)) := hcc8 1 _ rfl; have hf8_0 : w12.frozen? ⟨go8, (t376 : Int).toNat * 2, none⟩ = false := hfr8 0; have hf8_1 : w12.frozen? ⟨go8, (t376 : Int).toNat * 2 + 1, none⟩ = false := hfr8 1; clear hcl8 hcc8 hfr8 hM8; replace p8 := eq_true p8; replace q8 := eq_true q8; have HX13 := Aside0.mk (show Kd.R k106 106 w12 w.heap.size (fun _ => True) (.slice (some ⟨go8, 0, none⟩) y380.length co8) y380 from (by (with_reducible repeat (first | apply Kd.R_alloc | apply Kd.R_drewN | apply Kd.R_drew)); exact HO382.out)); obtain ⟨ce13, hcl13, hM13, hcc13, hfr13⟩ := Kd.R_elem HX13.out z106 (t376 : Int) (of_decide_eq_true (by first | (with_reducible assumption) | assumption)) (by have h_ : (t376 : Int) < ((y380.length : Int) : Int) := of_decide_eq_true (by first | (with_reducible assumption) | assumption); first | exact h_ | (have e_ := (Kd.R_reads' HO382.out).1; omega) | simpa using h_); obtain rfl := k106_openM hM13; have HP13 := Kd.R_seg HX13.out (t376 : Int) (of_decide_eq_true (by first | (with_reducible assumption) | assumption)) (by have h_ : (t376 : Int) < ((y380.length : Int) : Int) := of_decide_eq_true (by first | (with_reducible assumption) | assumption); first | exact h_ | (have e_ := (Kd.R_reads' HO382.out).1; omega) | simpa using h_) (seg := [.string (⟨#[]⟩ : ByteArray), .int .i64 0]) (j := 0) hcl13 hcc13 (show 2 ≤ 2 from by decide) (x' := (⟨(⟨#[]⟩ : ByteArray), 0⟩ : S106)) (k106_mkM _ _ _ (⟨(⟨#[]⟩ : ByteArray), 0⟩ : S106) ) (fun _ hk => hk); have hx13_0 := hcc13 0 _ rfl; (try simp only [show (k106).sz = 2 from rfl, Nat.mul_one, Nat.add_zero] at hx13_0); have hf13_0 := hfr13 0; (try simp only [show (k106).sz = 2 from rfl, Nat.mul_one, Nat.add_zero] at hf13_0); have hx13_1 := hcc13 1 _ rfl; (try simp only [show (k106).sz = 2 from rfl, Nat.mul_one, Nat.add_zero] at hx13_1); have hf13_1 := hfr13 1; (try simp only [show (k106).sz = 2 from rfl, Nat.mul_one, Nat.add_zero] at hf13_1); clear hcl13 hcc13 hfr13 hM13) | ((with_reducible refine gate_store (t := 106) (p := 20) rfl ?_); (try (rw [drewN_self w12]; generalize hq_ : World.drewN w12 _ = w12; have n0_ := Aside0.mk (Kd.R_at hq_ HO382.out); have n1_ := Aside0.mk (below_at hq_ HB.out); clear hq_ HO382 HB; have HO382 := n0_; have HB := n1_; clear n0_ n1_; (try (have HX13 := Aside0.mk (show Kd.R k106 106 w12 w.heap.size (fun _ => True) (.slice (some ⟨go8, 0, none⟩) y380.length co8) y380 from (by (with_reducible repeat (first | apply Kd.R_alloc | apply Kd.R_drewN | apply Kd.R_drew)); exact HO382.out)))); (try (obtain ⟨ce13, hcl13, hM13, hcc13, hfr13⟩ := Kd.R_elem HX13.out z106 (t376 : Int) (of_decide_eq_true (by first | (with_reducible assumption) | assumption)) (by have h_ : (t376 : Int) < ((y380.length : Int) : Int) := of_decide_eq_true (by first | (with_reducible assumption) | assumption); first | exact h_ | (have e_ := (Kd.R_reads' HO382.out).1; omega) | simpa using h_))); (try (obtain rfl := k106_openM hM13)); (try (have HP13 := Kd.R_seg HX13.out (t376 : Int) (of_decide_eq_true (by first | (with_reducible assumption) | assumption)) (by have h_ : (t376 : Int) < ((y380.length : Int) : Int) := of_decide_eq_true (by first | (with_reducible assumption) | assumption); first | exact h_ | (have e_ := (Kd.R_reads' HO382.out).1; omega) | simpa using h_) (seg := [.string (⟨#[]⟩ : ByteArray), .int .i64 0]) (j := 0) hcl13 hcc13 (show 2 ≤ 2 from by decide) (x' := (⟨(⟨#[]⟩ : ByteArray), 0⟩ : S106)) (k106_mkM _ _ _ (⟨(⟨#[]⟩ : ByteArray), 0⟩ : S106) ) (fun _ hk => hk))); (try (have hx13_0 := hcc13 0 _ rfl)); (try (try simp only [show (k106).sz = 2 from rfl, Nat.mul_one, Nat.add_zero] at hx13_0)); (try (have hf13_0 := hfr13 0)); (try (try simp only [show (k106).sz = 2 from rfl, Nat.mul_one, Nat.add_zero] at hf13_0)); (try (have hx13_1 := hcc13 1 _ rfl)); (try (try simp only [show (k106).sz = 2 from rfl, Nat.mul_one, Nat.add_zero] at hx13_1)); (try (have hf13_1 := hfr13 1)); (try (try simp only [show (k106).sz = 2 from rfl, Nat.mul_one, Nat.add_zero] at hf13_1)); (try (clear hcl13 hcc13 hfr13 hM13)))); refine store_event (t := 106) (p := 20) (v := ?vo_w14) (w1 := ((w12.setCell ⟨go8, (t376 : Int).toNat * 2, none⟩ (.string (⟨#[]⟩ : ByteArray))).setCell ⟨go8, (t376 : Int).toNat * 2 + 1, none⟩ (.int .i64 0))) ?hg ?ho ?hn ?hr ?_; (case ho => rfl); (case hg => rfl); (case hn => rfl); (case hr => first | (go_simp; done) | (go_simp; rfl)); intro w14 hw; have hg : w12.grownBy w14 (some go8) := (by rw [hw]; exact HP13.2); have hp_ : Kd.R k106 106 w14 w.heap.size (fun _ => True) (.slice (some ⟨go8, 0, none⟩) y380.length co8) y383 := (by rw [hw, Ny383.out]; exact HP13.1); clear HP13; have n0_ := Aside0.mk (hp_); have n1_ := Aside0.mk ((by rw [hw]; exact below_set (below_set (HB.out) GB8.out) GB8.out : Below w.heap.size w w14)); clear HO382; clear HB; have HO382 := n0_; have HB := n1_; clear n0_ n1_; clear hg hw hp_; have p384 : 0 ≤ (t376 : Int) := of_decide_eq_true (by first | (with_reducible assumption) | assumption); have q384 : t376 < (l0.length : Int) := of_decide_eq_true (by first | (with_reducible assumption) | assumption); obtain ⟨ad384, e384, hx384_0, hx384_1⟩ := at_T106 HR0.out t376 p384 q384; cases e384; replace hx384_0 := (HB.out.cell (World.block_lt_of_cell? w _ hx384_0)).trans hx384_0; replace hx384_1 := (HB.out.cell (World.block_lt_of_cell? w _ hx384_1)).trans hx384_1; replace p384 := eq_true p384; replace q384 := eq_true q384)); try go_wp2_with (first | (go_at_call 44; (with_reducible refine (mailbagref9_At.calls k _ _ l0 a1 t376 _ ?side1 ?side2 A3.out).mono ?_); (case side1 => repeat (first | exact HR0.out | (with_reducible refine Kd.C_alloc ?_ _) | (with_reducible refine Kd.C_drewN ?_ _) | (with_reducible refine Kd.C_drew ?_))); (case side2 => exact HC0.out); rintro e w' ⟨rfl, ⟨nd, rfl⟩⟩; (try first | exact ⟨rfl, _, World.drewN_drewN _ _ _⟩ | exact ⟨rfl, _, Eq.trans (World.drewN_drewN _ _ _) (congrArg (World.drewN _) (Nat.add_assoc _ _ _))⟩)) | ((with_reducible refine gate_dst (N := 14) rfl ?_); refine Kd.R_lit k106 _ 106 ?hg (N := 14) ?hd (xs := ([] : List (S106))) (inner := []) (ok := fun _ => True) (okp := fun _ => True) ?hr ?hp (fun _ hk => hk) trivial (Below.refl _ _) (Nat.le_refl _) (by simp) ?_; (case hd => rfl); (case hg => rfl); (case hr => first | (go_simp; done) | (go_simp; rfl)); (case hp => exact (Reps.none _ _)); intro v378 w10 ho11 hb hg_ hnew_; clear hg_ hnew_; (first | rw [← Ny377.out] at ho11 | (simp only [Int.reduceToNat] at ho11; rw [← Ny377.out] at ho11)); have n0_ := Aside0.mk (Kd.R_lower ho11 (below_size (by repeat (first | (with_reducible first | exact HB.out | apply below_alloc | apply pw_below_drewN | apply below_drew1) | exact HB.out)))); have n1_ := Aside0.mk (below_step (by repeat (first | (with_reducible first | exact HB.out | apply below_alloc | apply pw_below_drewN | apply below_drew1) | exact HB.out)) hb); clear HB; have HO379 := n0_; have HB := n1_; clear n0_ n1_; clear hb ho11) | ((with_reducible refine gate_builtin (b := .append) (xs := #[.tmp 14, .tmp 15]) rfl ?_); at_builtin; refine Kd.R_append_rows k106 (w0 := w) w.heap.size rfl (.tmp 14) (.tmp 15) 56 106 (.agg #[(.string ⟨#[]⟩), (.int .i64 0)]) 24 rfl Tryz.underlying56 info106 rfl (by decide) (by omega) v378 y377 l0 _ _ _ (fun _ => True) (fun _ => False) rfl rfl ?aO ?aR (fun _ _ h => h) (fun _ h => h.elim) ?aF ?aB ?aS ?aL ?_; (case aR => repeat (first | exact (Kd.C_below HR0.out HB.out) | (with_reducible refine Kd.C_alloc ?_ _) | (with_reducible refine Kd.C_drewN ?_ _) | (with_reducible refine Kd.C_drew ?_))); (case aB => exact (by repeat (first | (with_reducible first | exact HB.out | apply below_alloc | apply pw_below_drewN | apply below_drew1) | exact HB.out))); (case aF => exact (fun _ _ => trivial)); (case aO => exact (by (with_reducible repeat (first | apply Kd.R_alloc | apply Kd.R_drewN | apply Kd.R_drew)); exact HO379.out)); (case aS => exact (below_size (by repeat (first | (with_reducible first | exact HB.out | apply below_alloc | apply pw_below_drewN | apply below_drew1) | exact HB.out)))); (case aL => have := LMc5.out; omega); intro v381 w12 ho hb hg hat; rw [← Ny380.out] at ho; have n0_ := Aside0.mk (hb); have n1_ := Aside0.mk (ho); clear HB; clear HO379; have HB := n0_; have HO382 := n1_; clear n0_ n1_; clear ho hb hg hat; have p8 : 0 ≤ (t376 : Int) := of_decide_eq_true (by first | (with_reducible assumption) | assumption); have q8 : (t376 : Int) < ((y380.length : Int) : Int) := of_decide_eq_true (by first | (with_reducible assumption) | assumption); obtain ⟨go8, co8, eo8, gb8, gl8, cl8, HG8⟩ := Kd.R_form HO382.out (by omega); (first | cases eo8 | (injection eo8 with ea_ en_ ec_; (first | subst ea_ | (injection ea_ with ea_; subst ea_)); subst ec_; clear en_)); have GB8 := Aside0.mk gb8; have GG8 := Aside0.mk HG8; clear gb8 gl8 HG8; obtain ⟨ce8, hcl8, hM8, hcc8, hfr8⟩ := Kd.R_elem HO382.out z106 (t376 : Int) p8 q8; obtain rfl := k106_openM hM8; have hx8_0 : w12.cell? ⟨go8, (t376 : Int).toNat * 2, none⟩ = some (.string ((rd_T106 y380 t376).f0)) := hcc8 0 _ rfl; have hx8_1 : w12.cell? ⟨go8, (t376 : Int).toNat * 2 + 1, none⟩ = some (.int .i64 ((rd_T106 y380 t376).f1)) := hcc8 1 _ rfl; have hf8_0 : w12.frozen? ⟨go8, (t376 : Int).toNat * 2, none⟩ = false := hfr8 0; have hf8_1 : w12.frozen? ⟨go8, (t376 : Int).toNat * 2 + 1, none⟩ = false := hfr8 1; clear hcl8 hcc8 hfr8 hM8; replace p8 := eq_true p8; replace q8 := eq_true q8; have HX13 := Aside0.mk (show Kd.R k106 106 w12 w.heap.size (fun _ => True) (.slice (some ⟨go8, 0, none⟩) y380.length co8) y380 from (by (with_reducible repeat (first | apply Kd.R_alloc | apply Kd.R_drewN | apply Kd.R_drew)); exact HO382.out)); obtain ⟨ce13, hcl13, hM13, hcc13, hfr13⟩ := Kd.R_elem HX13.out z106 (t376 : Int) (of_decide_eq_true (by first | (with_reducible assumption) | assumption)) (by have h_ : (t376 : Int) < ((y380.length : Int) : Int) := of_decide_eq_true (by first | (with_reducible assumption) | assumption); first | exact h_ | (have e_ := (Kd.R_reads' HO382.out).1; omega) | simpa using h_); obtain rfl := k106_openM hM13; have HP13 := Kd.R_seg HX13.out (t376 : Int) (of_decide_eq_true (by first | (with_reducible assumption) | assumption)) (by have h_ : (t376 : Int) < ((y380.length : Int) : Int) := of_decide_eq_true (by first | (with_reducible assumption) | assumption); first | exact h_ | (have e_ := (Kd.R_reads' HO382.out).1; omega) | simpa using h_) (seg := [.string (⟨#[]⟩ : ByteArray), .int .i64 0]) (j := 0) hcl13 hcc13 (show 2 ≤ 2 from by decide) (x' := (⟨(⟨#[]⟩ : ByteArray), 0⟩ : S106)) (k106_mkM _ _ _ (⟨(⟨#[]⟩ : ByteArray), 0⟩ : S106) ) (fun _ hk => hk); have hx13_0 := hcc13 0 _ rfl; (try simp only [show (k106).sz = 2 from rfl, Nat.mul_one, Nat.add_zero] at hx13_0); have hf13_0 := hfr13 0; (try simp only [show (k106).sz = 2 from rfl, Nat.mul_one, Nat.add_zero] at hf13_0); have hx13_1 := hcc13 1 _ rfl; (try simp only [show (k106).sz = 2 from rfl, Nat.mul_one, Nat.add_zero] at hx13_1); have hf13_1 := hfr13 1; (try simp only [show (k106).sz = 2 from rfl, Nat.mul_one, Nat.add_zero] at hf13_1); clear hcl13 hcc13 hfr13 hM13) | ((with_reducible refine gate_store (t := 106) (p := 20) rfl ?_); (try (rw [drewN_self w12]; generalize hq_ : World.drewN w12 _ = w12; have n0_ := Aside0.mk (Kd.R_at hq_ HO382.out); have n1_ := Aside0.mk (below_at hq_ HB.out); clear hq_ HO382 HB; have HO382 := n0_; have HB := n1_; clear n0_ n1_; (try (have HX13 := Aside0.mk (show Kd.R k106 106 w12 w.heap.size (fun _ => True) (.slice (some ⟨go8, 0, none⟩) y380.length co8) y380 from (by (with_reducible repeat (first | apply Kd.R_alloc | apply Kd.R_drewN | apply Kd.R_drew)); exact HO382.out)))); (try (obtain ⟨ce13, hcl13, hM13, hcc13, hfr13⟩ := Kd.R_elem HX13.out z106 (t376 : Int) (of_decide_eq_true (by first | (with_reducible assumption) | assumption)) (by have h_ : (t376 : Int) < ((y380.length : Int) : Int) := of_decide_eq_true (by first | (with_reducible assumption) | assumption); first | exact h_ | (have e_ := (Kd.R_reads' HO382.out).1; omega) | simpa using h_))); (try (obtain rfl := k106_openM hM13)); (try (have HP13 := Kd.R_seg HX13.out (t376 : Int) (of_decide_eq_true (by first | (with_reducible assumption) | assumption)) (by have h_ : (t376 : Int) < ((y380.length : Int) : Int) := of_decide_eq_true (by first | (with_reducible assumption) | assumption); first | exact h_ | (have e_ := (Kd.R_reads' HO382.out).1; omega) | simpa using h_) (seg := [.string (⟨#[]⟩ : ByteArray), .int .i64 0]) (j := 0) hcl13 hcc13 (show 2 ≤ 2 from by decide) (x' := (⟨(⟨#[]⟩ : ByteArray), 0⟩ : S106)) (k106_mkM _ _ _ (⟨(⟨#[]⟩ : ByteArray), 0⟩ : S106) ) (fun _ hk => hk))); (try (have hx13_0 := hcc13 0 _ rfl)); (try (try simp only [show (k106).sz = 2 from rfl, Nat.mul_one, Nat.add_zero] at hx13_0)); (try (have hf13_0 := hfr13 0)); (try (try simp only [show (k106).sz = 2 from rfl, Nat.mul_one, Nat.add_zero] at hf13_0)); (try (have hx13_1 := hcc13 1 _ rfl)); (try (try simp only [show (k106).sz = 2 from rfl, Nat.mul_one, Nat.add_zero] at hx13_1)); (try (have hf13_1 := hfr13 1)); (try (try simp only [show (k106).sz = 2 from rfl, Nat.mul_one, Nat.add_zero] at hf13_1)); (try (clear hcl13 hcc13 hfr13 hM13)))); refine store_event (t := 106) (p := 20) (v := ?vo_w14) (w1 := ((w12.setCell ⟨go8, (t376 : Int).toNat * 2, none⟩ (.string (⟨#[]⟩ : ByteArray))).setCell ⟨go8, (t376 : Int).toNat * 2 + 1, none⟩ (.int .i64 0))) ?hg ?ho ?hn ?hr ?_; (case ho => rfl); (case hg => rfl); (case hn => rfl); (case hr => first | (go_simp; done) | (go_simp; rfl)); intro w14 hw; have hg : w12.grownBy w14 (some go8) := (by rw [hw]; exact HP13.2); have hp_ : Kd.R k106 106 w14 w.heap.size (fun _ => True) (.slice (some ⟨go8, 0, none⟩) y380.length co8) y383 := (by rw [hw, Ny383.out]; exact HP13.1); clear HP13; have n0_ := Aside0.mk (hp_); have n1_ := Aside0.mk ((by rw [hw]; exact below_set (below_set (HB.out) GB8.out) GB8.out : Below w.heap.size w w14)); clear HO382; clear HB; have HO382 := n0_; have HB := n1_; clear n0_ n1_; clear hg hw hp_; have p384 : 0 ≤ (t376 : Int) := of_decide_eq_true (by first | (with_reducible assumption) | assumption); have q384 : t376 < (l0.length : Int) := of_decide_eq_true (by first | (with_reducible assumption) | assumption); obtain ⟨ad384, e384, hx384_0, hx384_1⟩ := at_T106 HR0.out t376 p384 q384; cases e384; replace hx384_0 := (HB.out.cell (World.block_lt_of_cell? w _ hx384_0)).trans hx384_0; replace hx384_1 := (HB.out.cell (World.block_lt_of_cell? w _ hx384_1)).trans hx384_1; replace p384 := eq_true p384; replace q384 := eq_true q384)))
            go_ret3
            exact ⟨_, by first | rfl | (simp [errW_none, errW_some] <;> rfl) | (simp [*, errW_none, errW_some] <;> rfl), by (with_reducible repeat (first | apply Kd.R_alloc | apply Kd.R_drewN | apply Kd.R_drew)); exact HO382.out, by repeat (first | (with_reducible first | exact HB.out | apply below_alloc | apply pw_below_drewN | apply below_drew1) | exact HB.out)⟩
          · rw [if_neg c9] at H
            exact absurd H (by simp)
        · rw [if_neg c7] at H
          exact absurd H (by simp)
      · rw [if_neg c6] at H
        exact absurd H (by simp)
    · rw [if_neg c5] at H
      exact absurd H (by simp)
def mailbagref9_Move.f (k : Nat) (l0 : List (S106)) (a1 : ByteArray) (a2 : ByteArray) : Option ((List (S106)) × Int) := (mailbagref9_At.f k l0 a1).bind fun t409 => (if t409 < 0 then (some (([] : List (S106)), 8)) else ((mailbagref9_Name.f k a2).bind fun t410 => (if t410 = true then (if a2.toList = a1.toList then ((some (([] : List (S106)) : List (S106))).bind fun y411 => (if y411.length + l0.length < 5864062014805 then ((some (y411 ++ l0 : List (S106))).bind fun y414 => (if 0 ≤ t409 then (if t409 < (y414.length : Int) then (some ((y414.set (t409 : Int).toNat (⟨a2, (rd_T106 y414 t409).f1⟩ : S106)), 0)) else (none)) else (none))) else (none))) else ((mailbagref9_At.f k l0 a2).bind fun t418 => (if t418 ≥ 0 then (some (([] : List (S106)), 9)) else ((some (([] : List (S106)) : List (S106))).bind fun y419 => (if y419.length + l0.length < 5864062014805 then ((some (y419 ++ l0 : List (S106))).bind fun y422 => (if 0 ≤ t409 then (if t409 < (y422.length : Int) then (some ((y422.set (t409 : Int).toNat (⟨a2, (rd_T106 y422 t409).f1⟩ : S106)), 0)) else (none)) else (none))) else (none)))))) else (some (([] : List (S106)), 12)))))
set_option maxHeartbeats 8000000 in
set_option maxRecDepth 100000 in
theorem mailbagref9_Move.calls (k : Nat) (A0 : Option Addr) (c0 : Nat) (l0 : List (S106)) (a1 : ByteArray) (a2 : ByteArray) (r1 : List (S106)) (r2 : Int) (w : World) (hr0 : Kd.C k106 w A0 l0.length l0) (hc0 : l0.length ≤ c0) (h : mailbagref9_Move.f k l0 a1 a2 = some (r1, r2)) :
    Calls Tryz.prog 54 #[.slice A0 l0.length c0, .string a1, .string a2] w fun e w' => ∃ v0_ : Value, e = .returned (.tuple #[v0_, .int .i64 r2]) ∧ Kd.R k106 106 w' w.heap.size (fun _ => True) v0_ r1 ∧ Below w.heap.size w w' := by
  have HR0 := Aside0.mk hr0
  have HC0 := Aside0.mk hc0
  clear hr0 hc0
  have HB := Aside0.mk (Below.refl w.heap.size w)
  have H : ((mailbagref9_At.f k l0 a1).bind fun t409 => (if t409 < 0 then (some (([] : List (S106)), 8)) else ((mailbagref9_Name.f k a2).bind fun t410 => (if t410 = true then (if a2.toList = a1.toList then ((some (([] : List (S106)) : List (S106))).bind fun y411 => (if y411.length + l0.length < 5864062014805 then ((some (y411 ++ l0 : List (S106))).bind fun y414 => (if 0 ≤ t409 then (if t409 < (y414.length : Int) then (some ((y414.set (t409 : Int).toNat (⟨a2, (rd_T106 y414 t409).f1⟩ : S106)), 0)) else (none)) else (none))) else (none))) else ((mailbagref9_At.f k l0 a2).bind fun t418 => (if t418 ≥ 0 then (some (([] : List (S106)), 9)) else ((some (([] : List (S106)) : List (S106))).bind fun y419 => (if y419.length + l0.length < 5864062014805 then ((some (y419 ++ l0 : List (S106))).bind fun y422 => (if 0 ≤ t409 then (if t409 < (y422.length : Int) then (some ((y422.set (t409 : Int).toNat (⟨a2, (rd_T106 y422 t409).f1⟩ : S106)), 0)) else (none)) else (none))) else (none)))))) else (some (([] : List (S106)), 12)))))) = some (r1, r2) := h
  clear h
  replace H := Option.bind_eq_some_iff.mp H
  obtain ⟨t409, A40, H⟩ := H
  replace H : (if t409 < 0 then (some (([] : List (S106)), 8)) else ((mailbagref9_Name.f k a2).bind fun t410 => (if t410 = true then (if a2.toList = a1.toList then ((some (([] : List (S106)) : List (S106))).bind fun y411 => (if y411.length + l0.length < 5864062014805 then ((some (y411 ++ l0 : List (S106))).bind fun y414 => (if 0 ≤ t409 then (if t409 < (y414.length : Int) then (some ((y414.set (t409 : Int).toNat (⟨a2, (rd_T106 y414 t409).f1⟩ : S106)), 0)) else (none)) else (none))) else (none))) else ((mailbagref9_At.f k l0 a2).bind fun t418 => (if t418 ≥ 0 then (some (([] : List (S106)), 9)) else ((some (([] : List (S106)) : List (S106))).bind fun y419 => (if y419.length + l0.length < 5864062014805 then ((some (y419 ++ l0 : List (S106))).bind fun y422 => (if 0 ≤ t409 then (if t409 < (y422.length : Int) then (some ((y422.set (t409 : Int).toNat (⟨a2, (rd_T106 y422 t409).f1⟩ : S106)), 0)) else (none)) else (none))) else (none)))))) else (some (([] : List (S106)), 12))))) = some (r1, r2) := H
  have A4 := Aside0.mk A40
  clear A40
  by_cases c5 : t409 < 0
  · rw [if_pos c5] at H
    have c5b0 : decide (t409 < 0) = true := decide_eq_true c5
    clear c5
    simp only [Option.some.injEq, Prod.mk.injEq] at H
    obtain ⟨rfl, rfl⟩ := H
    go_enter Tryz.func54, Tryz.ntmps54
    go_wp2_with (first | ((with_reducible refine gate_callee (f := 44) rfl ?_); refine goesL_ (some 12) rfl rfl Tryz.func44 (by kernel_rfl) rfl #[.slice A0 l0.length c0, .string a1] rfl (by (try simp only [List.map_toArray, List.map_cons, List.map_nil]); first | done | rfl | (simp only [List.length_drop, List.length_take]; rfl)) ?_; (with_reducible refine (mailbagref9_At.calls k _ _ l0 a1 t409 _ ?side1 ?side2 A4.out).mono ?_); (case side1 => repeat (first | exact HR0.out | (with_reducible refine Kd.C_alloc ?_ _) | (with_reducible refine Kd.C_drewN ?_ _) | (with_reducible refine Kd.C_drew ?_))); (case side2 => exact HC0.out); rintro e w' ⟨rfl, ⟨nd, rfl⟩⟩; refine ⟨_, rfl, ?_⟩))
    go_ret2
    exact ⟨_, by first | rfl | (simp [errW_none, errW_some] <;> rfl) | (simp [*, errW_none, errW_some] <;> rfl), by first | exact Kd.R_nil _ _ _ _ _ | exact Kd.N_nil _ _ _ _ _ | exact Kd.V_nil _ _ _ _ _ | exact Kd.Q_nil _ _ _ _ _ | exact Kd.S_nil _ _ _ _ _, by repeat (first | (with_reducible first | exact HB.out | apply below_alloc | apply pw_below_drewN | apply below_drew1) | exact HB.out)⟩
  · rw [if_neg c5] at H
    have c5b0 : decide (t409 < 0) = false := decide_eq_false c5
    clear c5
    replace H := Option.bind_eq_some_iff.mp H
    obtain ⟨t410, A60, H⟩ := H
    replace H : (if t410 = true then (if a2.toList = a1.toList then ((some (([] : List (S106)) : List (S106))).bind fun y411 => (if y411.length + l0.length < 5864062014805 then ((some (y411 ++ l0 : List (S106))).bind fun y414 => (if 0 ≤ t409 then (if t409 < (y414.length : Int) then (some ((y414.set (t409 : Int).toNat (⟨a2, (rd_T106 y414 t409).f1⟩ : S106)), 0)) else (none)) else (none))) else (none))) else ((mailbagref9_At.f k l0 a2).bind fun t418 => (if t418 ≥ 0 then (some (([] : List (S106)), 9)) else ((some (([] : List (S106)) : List (S106))).bind fun y419 => (if y419.length + l0.length < 5864062014805 then ((some (y419 ++ l0 : List (S106))).bind fun y422 => (if 0 ≤ t409 then (if t409 < (y422.length : Int) then (some ((y422.set (t409 : Int).toNat (⟨a2, (rd_T106 y422 t409).f1⟩ : S106)), 0)) else (none)) else (none))) else (none)))))) else (some (([] : List (S106)), 12))) = some (r1, r2) := H
    have A6 := Aside0.mk A60
    clear A60
    by_cases c7 : t410 = true
    · subst c7
      have H1 : (if a2.toList = a1.toList then ((some (([] : List (S106)) : List (S106))).bind fun y411 => (if y411.length + l0.length < 5864062014805 then ((some (y411 ++ l0 : List (S106))).bind fun y414 => (if 0 ≤ t409 then (if t409 < (y414.length : Int) then (some ((y414.set (t409 : Int).toNat (⟨a2, (rd_T106 y414 t409).f1⟩ : S106)), 0)) else (none)) else (none))) else (none))) else ((mailbagref9_At.f k l0 a2).bind fun t418 => (if t418 ≥ 0 then (some (([] : List (S106)), 9)) else ((some (([] : List (S106)) : List (S106))).bind fun y419 => (if y419.length + l0.length < 5864062014805 then ((some (y419 ++ l0 : List (S106))).bind fun y422 => (if 0 ≤ t409 then (if t409 < (y422.length : Int) then (some ((y422.set (t409 : Int).toNat (⟨a2, (rd_T106 y422 t409).f1⟩ : S106)), 0)) else (none)) else (none))) else (none)))))) = some (r1, r2) := by rw [if_pos rfl] at H; exact H
      clear H
      have H := H1
      clear H1
      by_cases c8 : a2.toList = a1.toList
      · rw [if_pos c8] at H
        have c8b0 : (a2.toList == a1.toList) = true := beq_iff_eq.mpr c8
        have c8b1 : (a2.toList != a1.toList) = false := bne_eq_false_iff_eq.mpr c8
        clear c8
        obtain ⟨y411, hy411⟩ : ∃ y_ : List (S106), y_ = (([] : List (S106))) := ⟨_, rfl⟩
        replace H : (if y411.length + l0.length < 5864062014805 then ((some (y411 ++ l0 : List (S106))).bind fun y414 => (if 0 ≤ t409 then (if t409 < (y414.length : Int) then (some ((y414.set (t409 : Int).toNat (⟨a2, (rd_T106 y414 t409).f1⟩ : S106)), 0)) else (none)) else (none))) else (none)) = some (r1, r2) := by first | (rw [hy411]; with_reducible exact H) | (have H2_ := (Option.bind_some _ _).symm.trans H; rw [hy411]; with_reducible exact H2_) | (have H2_ := (Option.bind_some _ _).symm.trans H; with_reducible exact H2_) | with_reducible exact H | (rw [hy411]; exact H) | exact H
        have Ny411 := Aside0.mk hy411
        clear hy411
        by_cases c9 : y411.length + l0.length < 5864062014805
        · rw [if_pos c9] at H
          have LMc9 := Aside0.mk c9
          clear c9
          obtain ⟨y414, hy414⟩ : ∃ y_ : List (S106), y_ = (y411 ++ l0) := ⟨_, rfl⟩
          replace H : (if 0 ≤ t409 then (if t409 < (y414.length : Int) then (some ((y414.set (t409 : Int).toNat (⟨a2, (rd_T106 y414 t409).f1⟩ : S106)), 0)) else (none)) else (none)) = some (r1, r2) := by first | (rw [hy414]; with_reducible exact H) | (have H2_ := (Option.bind_some _ _).symm.trans H; rw [hy414]; with_reducible exact H2_) | (have H2_ := (Option.bind_some _ _).symm.trans H; with_reducible exact H2_) | with_reducible exact H | (rw [hy414]; exact H) | exact H
          have Ny414 := Aside0.mk hy414
          clear hy414
          by_cases c10 : 0 ≤ t409
          · rw [if_pos c10] at H
            have c10b0 : decide (0 ≤ t409) = true := decide_eq_true c10
            clear c10
            by_cases c11 : t409 < (y414.length : Int)
            · rw [if_pos c11] at H
              have c11b0 : decide (t409 < (y414.length : Int)) = true := decide_eq_true c11
              clear c11
              obtain ⟨y417, hy417⟩ : ∃ y_ : List (S106), y_ = (y414.set (t409 : Int).toNat (⟨a2, (rd_T106 y414 t409).f1⟩ : S106)) := ⟨_, rfl⟩
              replace H : (some (y417, 0)) = some (r1, r2) := by first | (rw [hy417]; with_reducible exact H) | (have H2_ := (Option.bind_some _ _).symm.trans H; rw [hy417]; with_reducible exact H2_) | (have H2_ := (Option.bind_some _ _).symm.trans H; with_reducible exact H2_) | with_reducible exact H | (rw [hy417]; exact H) | exact H
              have Ny417 := Aside0.mk hy417
              clear hy417
              simp only [Option.some.injEq, Prod.mk.injEq] at H
              obtain ⟨rfl, rfl⟩ := H
              go_enter Tryz.func54, Tryz.ntmps54
              go_wp2_with (first | ((with_reducible refine gate_callee (f := 44) rfl ?_); refine goesL_ (some 12) rfl rfl Tryz.func44 (by kernel_rfl) rfl #[.slice A0 l0.length c0, .string a1] rfl (by (try simp only [List.map_toArray, List.map_cons, List.map_nil]); first | done | rfl | (simp only [List.length_drop, List.length_take]; rfl)) ?_; (with_reducible refine (mailbagref9_At.calls k _ _ l0 a1 t409 _ ?side1 ?side2 A4.out).mono ?_); (case side1 => repeat (first | exact HR0.out | (with_reducible refine Kd.C_alloc ?_ _) | (with_reducible refine Kd.C_drewN ?_ _) | (with_reducible refine Kd.C_drew ?_))); (case side2 => exact HC0.out); rintro e w' ⟨rfl, ⟨nd, rfl⟩⟩; refine ⟨_, rfl, ?_⟩) | ((with_reducible refine gate_callee (f := 42) rfl ?_); refine goesL_ (some 18) rfl rfl Tryz.func42 (by kernel_rfl) rfl #[.string a2] rfl (by (try simp only [List.map_toArray, List.map_cons, List.map_nil]); first | done | rfl | (simp only [List.length_drop, List.length_take]; rfl)) ?_; (with_reducible refine (mailbagref9_Name.calls k a2 true _ A6.out).mono ?_); rintro e w' ⟨rfl, ⟨nd, rfl⟩⟩; refine ⟨_, rfl, ?_⟩) | ((with_reducible refine gate_dst (N := 30) rfl ?_); refine Kd.R_lit k106 _ 106 ?hg (N := 30) ?hd (xs := ([] : List (S106))) (inner := []) (ok := fun _ => True) (okp := fun _ => True) ?hr ?hp (fun _ hk => hk) trivial (Below.refl _ _) (Nat.le_refl _) (by simp) ?_; (case hd => rfl); (case hg => rfl); (case hr => first | (go_simp; done) | (go_simp; rfl)); (case hp => exact (Reps.none _ _)); intro v412 w13 ho14 hb hg_ hnew_; clear hg_ hnew_; (first | rw [← Ny411.out] at ho14 | (simp only [Int.reduceToNat] at ho14; rw [← Ny411.out] at ho14)); have n0_ := Aside0.mk (Kd.R_lower ho14 (below_size (by repeat (first | (with_reducible first | exact HB.out | apply below_alloc | apply pw_below_drewN | apply below_drew1) | exact HB.out)))); have n1_ := Aside0.mk (below_step (by repeat (first | (with_reducible first | exact HB.out | apply below_alloc | apply pw_below_drewN | apply below_drew1) | exact HB.out)) hb); clear HB; have HO413 := n0_; have HB := n1_; clear n0_ n1_; clear hb ho14) | ((with_reducible refine gate_builtin (b := .append) (xs := #[.tmp 30, .tmp 31]) rfl ?_); at_builtin; refine Kd.R_append_rows k106 (w0 := w) w.heap.size rfl (.tmp 30) (.tmp 31) 56 106 (.agg #[(.string ⟨#[]⟩), (.int .i64 0)]) 24 rfl Tryz.underlying56 info106 rfl (by decide) (by omega) v412 y411 l0 _ _ _ (fun _ => True) (fun _ => False) rfl rfl ?aO ?aR (fun _ _ h => h) (fun _ h => h.elim) ?aF ?aB ?aS ?aL ?_; (case aR => repeat (first | exact (Kd.C_below HR0.out HB.out) | (with_reducible refine Kd.C_alloc ?_ _) | (with_reducible refine Kd.C_drewN ?_ _) | (with_reducible refine Kd.C_drew ?_))); (case aB => exact (by repeat (first | (with_reducible first | exact HB.out | apply below_alloc | apply pw_below_drewN | apply below_drew1) | exact HB.out))); (case aF => exact (fun _ _ => trivial)); (case aO => exact (by (with_reducible repeat (first | apply Kd.R_alloc | apply Kd.R_drewN | apply Kd.R_drew)); exact HO413.out)); (case aS => exact (below_size (by repeat (first | (with_reducible first | exact HB.out | apply below_alloc | apply pw_below_drewN | apply below_drew1) | exact HB.out)))); (case aL => have := LMc9.out; omega); intro v415 w15 ho hb hg hat; rw [← Ny414.out] at ho; have n0_ := Aside0.mk (hb); have n1_ := Aside0.mk (ho); clear HB; clear HO413; have HB := n0_; have HO416 := n1_; clear n0_ n1_; clear ho hb hg hat; have p12 : 0 ≤ (t409 : Int) := of_decide_eq_true (by first | (with_reducible assumption) | assumption); have q12 : (t409 : Int) < ((y414.length : Int) : Int) := of_decide_eq_true (by first | (with_reducible assumption) | assumption); obtain ⟨go12, co12, eo12, gb12, gl12, cl12, HG12⟩ := Kd.R_form HO416.out (by omega); (first | cases eo12 | (injection eo12 with ea_ en_ ec_; (first | subst ea_ | (injection ea_ with ea_; subst ea_)); subst ec_; clear en_)); have GB12 := Aside0.mk gb12; have GG12 := Aside0.mk HG12; clear gb12 gl12 HG12; obtain ⟨ce12, hcl12, hM12, hcc12, hfr12⟩ := Kd.R_elem HO416.out z106 (t409 : Int) p12 q12; obtain rfl := k106_openM hM12; have hx12_0 : w15.cell? ⟨go12, (t409 : Int).toNat * 2, none⟩ = some (.string ((rd_T106 y414 t409).f0)) := hcc12 0 _ rfl; have hx12_1 : w15.cell? ⟨go12, (t409 : Int).toNat * 2 + 1, none⟩ = some (.int .i64 ((rd_T106 y414 t409).f1)) := hcc12 1 _ rfl; have hf12_0 : w15.frozen? ⟨go12, (t409 : Int).toNat * 2, none⟩ = false := hfr12 0; have hf12_1 : w15.frozen? ⟨go12, (t409 : Int).toNat * 2 + 1, none⟩ = false := hfr12 1; clear hcl12 hcc12 hfr12 hM12; replace p12 := eq_true p12; replace q12 := eq_true q12; have HX16 := Aside0.mk (show Kd.R k106 106 w15 w.heap.size (fun _ => True) (.slice (some ⟨go12, 0, none⟩) y414.length co12) y414 from (by (with_reducible repeat (first | apply Kd.R_alloc | apply Kd.R_drewN | apply Kd.R_drew)); exact HO416.out)); obtain ⟨ce16, hcl16, hM16, hcc16, hfr16⟩ := Kd.R_elem HX16.out z106 (t409 : Int) (of_decide_eq_true (by first | (with_reducible assumption) | assumption)) (by have h_ : (t409 : Int) < ((y414.length : Int) : Int) := of_decide_eq_true (by first | (with_reducible assumption) | assumption); first | exact h_ | (have e_ := (Kd.R_reads' HO416.out).1; omega) | simpa using h_); obtain rfl := k106_openM hM16; have HP16 := Kd.R_seg HX16.out (t409 : Int) (of_decide_eq_true (by first | (with_reducible assumption) | assumption)) (by have h_ : (t409 : Int) < ((y414.length : Int) : Int) := of_decide_eq_true (by first | (with_reducible assumption) | assumption); first | exact h_ | (have e_ := (Kd.R_reads' HO416.out).1; omega) | simpa using h_) (seg := [.string a2]) (j := 0) hcl16 hcc16 (show 1 ≤ 2 from by decide) (x' := (⟨a2, (rd_T106 y414 t409).f1⟩ : S106)) (k106_mkM _ _ _ (⟨a2, (rd_T106 y414 t409).f1⟩ : S106) ) (fun _ hk => hk); have hx16_0 := hcc16 0 _ rfl; (try simp only [show (k106).sz = 2 from rfl, Nat.mul_one, Nat.add_zero] at hx16_0); have hf16_0 := hfr16 0; (try simp only [show (k106).sz = 2 from rfl, Nat.mul_one, Nat.add_zero] at hf16_0); clear hcl16 hcc16 hfr16 hM16) | ((with_reducible refine gate_store (t := 9) (p := 37) rfl ?_); refine store_event (t := 9) (p := 37) (v := ?vo_w17) (w1 := (w15.setCell ⟨go12, (t409 : Int).toNat * 2, none⟩ (.string a2))) ?hg ?ho ?hn ?hr ?_; (case ho => rfl); (case hg => rfl); (case hn => rfl); (case hr => first | (go_simp; done) | (go_simp; rfl)); intro w17 hw; have hg : w15.grownBy w17 (some go12) := (by rw [hw]; exact HP16.2); have hp_ : Kd.R k106 106 w17 w.heap.size (fun _ => True) (.slice (some ⟨go12, 0, none⟩) y414.length co12) y417 := (by rw [hw, Ny417.out]; exact HP16.1); clear HP16; have n0_ := Aside0.mk (hp_); have n1_ := Aside0.mk ((by rw [hw]; exact below_set (HB.out) GB12.out : Below w.heap.size w w17)); clear HO416; clear HB; have HO416 := n0_; have HB := n1_; clear n0_ n1_; clear hg hw hp_))
              go_ret2
              exact ⟨_, by first | rfl | (simp [errW_none, errW_some] <;> rfl) | (simp [*, errW_none, errW_some] <;> rfl), by (with_reducible repeat (first | apply Kd.R_alloc | apply Kd.R_drewN | apply Kd.R_drew)); exact HO416.out, by repeat (first | (with_reducible first | exact HB.out | apply below_alloc | apply pw_below_drewN | apply below_drew1) | exact HB.out)⟩
            · rw [if_neg c11] at H
              exact absurd H (by simp)
          · rw [if_neg c10] at H
            exact absurd H (by simp)
        · rw [if_neg c9] at H
          exact absurd H (by simp)
      · rw [if_neg c8] at H
        have c8b0 : (a2.toList == a1.toList) = false := beq_eq_false_iff_ne.mpr c8
        have c8b1 : (a2.toList != a1.toList) = true := bne_iff_ne.mpr c8
        replace H := Option.bind_eq_some_iff.mp H
        obtain ⟨t418, A180, H⟩ := H
        replace H : (if t418 ≥ 0 then (some (([] : List (S106)), 9)) else ((some (([] : List (S106)) : List (S106))).bind fun y419 => (if y419.length + l0.length < 5864062014805 then ((some (y419 ++ l0 : List (S106))).bind fun y422 => (if 0 ≤ t409 then (if t409 < (y422.length : Int) then (some ((y422.set (t409 : Int).toNat (⟨a2, (rd_T106 y422 t409).f1⟩ : S106)), 0)) else (none)) else (none))) else (none)))) = some (r1, r2) := H
        have A18 := Aside0.mk A180
        clear A180
        by_cases c19 : t418 ≥ 0
        · rw [if_pos c19] at H
          have c19b0 : decide (0 ≤ t418) = true := decide_eq_true c19
          clear c19
          simp only [Option.some.injEq, Prod.mk.injEq] at H
          obtain ⟨rfl, rfl⟩ := H
          go_enter Tryz.func54, Tryz.ntmps54
          go_wp2_with (first | ((with_reducible refine gate_callee (f := 44) rfl ?_); refine goesL_ (some 12) rfl rfl Tryz.func44 (by kernel_rfl) rfl #[.slice A0 l0.length c0, .string a1] rfl (by (try simp only [List.map_toArray, List.map_cons, List.map_nil]); first | done | rfl | (simp only [List.length_drop, List.length_take]; rfl)) ?_; (with_reducible refine (mailbagref9_At.calls k _ _ l0 a1 t409 _ ?side1 ?side2 A4.out).mono ?_); (case side1 => repeat (first | exact HR0.out | (with_reducible refine Kd.C_alloc ?_ _) | (with_reducible refine Kd.C_drewN ?_ _) | (with_reducible refine Kd.C_drew ?_))); (case side2 => exact HC0.out); rintro e w' ⟨rfl, ⟨nd, rfl⟩⟩; refine ⟨_, rfl, ?_⟩) | ((with_reducible refine gate_callee (f := 42) rfl ?_); refine goesL_ (some 18) rfl rfl Tryz.func42 (by kernel_rfl) rfl #[.string a2] rfl (by (try simp only [List.map_toArray, List.map_cons, List.map_nil]); first | done | rfl | (simp only [List.length_drop, List.length_take]; rfl)) ?_; (with_reducible refine (mailbagref9_Name.calls k a2 true _ A6.out).mono ?_); rintro e w' ⟨rfl, ⟨nd, rfl⟩⟩; refine ⟨_, rfl, ?_⟩) | (go_at_call 44; (with_reducible refine (mailbagref9_At.calls k _ _ l0 a2 t418 _ ?side1 ?side2 A18.out).mono ?_); (case side1 => repeat (first | exact HR0.out | (with_reducible refine Kd.C_alloc ?_ _) | (with_reducible refine Kd.C_drewN ?_ _) | (with_reducible refine Kd.C_drew ?_))); (case side2 => exact HC0.out); rintro e w' ⟨rfl, ⟨nd, rfl⟩⟩))
          go_ret2
          exact ⟨_, by first | rfl | (simp [errW_none, errW_some] <;> rfl) | (simp [*, errW_none, errW_some] <;> rfl), by first | exact Kd.R_nil _ _ _ _ _ | exact Kd.N_nil _ _ _ _ _ | exact Kd.V_nil _ _ _ _ _ | exact Kd.Q_nil _ _ _ _ _ | exact Kd.S_nil _ _ _ _ _, by repeat (first | (with_reducible first | exact HB.out | apply below_alloc | apply pw_below_drewN | apply below_drew1) | exact HB.out)⟩
        · rw [if_neg c19] at H
          have c19b0 : decide (0 ≤ t418) = false := decide_eq_false c19
          clear c19
          obtain ⟨y419, hy419⟩ : ∃ y_ : List (S106), y_ = (([] : List (S106))) := ⟨_, rfl⟩
          replace H : (if y419.length + l0.length < 5864062014805 then ((some (y419 ++ l0 : List (S106))).bind fun y422 => (if 0 ≤ t409 then (if t409 < (y422.length : Int) then (some ((y422.set (t409 : Int).toNat (⟨a2, (rd_T106 y422 t409).f1⟩ : S106)), 0)) else (none)) else (none))) else (none)) = some (r1, r2) := by first | (rw [hy419]; with_reducible exact H) | (have H2_ := (Option.bind_some _ _).symm.trans H; rw [hy419]; with_reducible exact H2_) | (have H2_ := (Option.bind_some _ _).symm.trans H; with_reducible exact H2_) | with_reducible exact H | (rw [hy419]; exact H) | exact H
          have Ny419 := Aside0.mk hy419
          clear hy419
          by_cases c20 : y419.length + l0.length < 5864062014805
          · rw [if_pos c20] at H
            have LMc20 := Aside0.mk c20
            clear c20
            obtain ⟨y422, hy422⟩ : ∃ y_ : List (S106), y_ = (y419 ++ l0) := ⟨_, rfl⟩
            replace H : (if 0 ≤ t409 then (if t409 < (y422.length : Int) then (some ((y422.set (t409 : Int).toNat (⟨a2, (rd_T106 y422 t409).f1⟩ : S106)), 0)) else (none)) else (none)) = some (r1, r2) := by first | (rw [hy422]; with_reducible exact H) | (have H2_ := (Option.bind_some _ _).symm.trans H; rw [hy422]; with_reducible exact H2_) | (have H2_ := (Option.bind_some _ _).symm.trans H; with_reducible exact H2_) | with_reducible exact H | (rw [hy422]; exact H) | exact H
            have Ny422 := Aside0.mk hy422
            clear hy422
            by_cases c21 : 0 ≤ t409
            · rw [if_pos c21] at H
              have c21b0 : decide (0 ≤ t409) = true := decide_eq_true c21
              clear c21
              by_cases c22 : t409 < (y422.length : Int)
              · rw [if_pos c22] at H
                have c22b0 : decide (t409 < (y422.length : Int)) = true := decide_eq_true c22
                clear c22
                obtain ⟨y425, hy425⟩ : ∃ y_ : List (S106), y_ = (y422.set (t409 : Int).toNat (⟨a2, (rd_T106 y422 t409).f1⟩ : S106)) := ⟨_, rfl⟩
                replace H : (some (y425, 0)) = some (r1, r2) := by first | (rw [hy425]; with_reducible exact H) | (have H2_ := (Option.bind_some _ _).symm.trans H; rw [hy425]; with_reducible exact H2_) | (have H2_ := (Option.bind_some _ _).symm.trans H; with_reducible exact H2_) | with_reducible exact H | (rw [hy425]; exact H) | exact H
                have Ny425 := Aside0.mk hy425
                clear hy425
                simp only [Option.some.injEq, Prod.mk.injEq] at H
                obtain ⟨rfl, rfl⟩ := H
                go_enter Tryz.func54, Tryz.ntmps54
                go_wp2_with (first | ((with_reducible refine gate_callee (f := 44) rfl ?_); refine goesL_ (some 12) rfl rfl Tryz.func44 (by kernel_rfl) rfl #[.slice A0 l0.length c0, .string a1] rfl (by (try simp only [List.map_toArray, List.map_cons, List.map_nil]); first | done | rfl | (simp only [List.length_drop, List.length_take]; rfl)) ?_; (with_reducible refine (mailbagref9_At.calls k _ _ l0 a1 t409 _ ?side1 ?side2 A4.out).mono ?_); (case side1 => repeat (first | exact HR0.out | (with_reducible refine Kd.C_alloc ?_ _) | (with_reducible refine Kd.C_drewN ?_ _) | (with_reducible refine Kd.C_drew ?_))); (case side2 => exact HC0.out); rintro e w' ⟨rfl, ⟨nd, rfl⟩⟩; refine ⟨_, rfl, ?_⟩) | ((with_reducible refine gate_callee (f := 42) rfl ?_); refine goesL_ (some 18) rfl rfl Tryz.func42 (by kernel_rfl) rfl #[.string a2] rfl (by (try simp only [List.map_toArray, List.map_cons, List.map_nil]); first | done | rfl | (simp only [List.length_drop, List.length_take]; rfl)) ?_; (with_reducible refine (mailbagref9_Name.calls k a2 true _ A6.out).mono ?_); rintro e w' ⟨rfl, ⟨nd, rfl⟩⟩; refine ⟨_, rfl, ?_⟩) | (go_at_call 44; (with_reducible refine (mailbagref9_At.calls k _ _ l0 a2 t418 _ ?side1 ?side2 A18.out).mono ?_); (case side1 => repeat (first | exact HR0.out | (with_reducible refine Kd.C_alloc ?_ _) | (with_reducible refine Kd.C_drewN ?_ _) | (with_reducible refine Kd.C_drew ?_))); (case side2 => exact HC0.out); rintro e w' ⟨rfl, ⟨nd, rfl⟩⟩) | ((with_reducible refine gate_dst (N := 30) rfl ?_); refine Kd.R_lit k106 _ 106 ?hg (N := 30) ?hd (xs := ([] : List (S106))) (inner := []) (ok := fun _ => True) (okp := fun _ => True) ?hr ?hp (fun _ hk => hk) trivial (Below.refl _ _) (Nat.le_refl _) (by simp) ?_; (case hd => rfl); (case hg => rfl); (case hr => first | (go_simp; done) | (go_simp; rfl)); (case hp => exact (Reps.none _ _)); intro v420 w24 ho25 hb hg_ hnew_; clear hg_ hnew_; (first | rw [← Ny419.out] at ho25 | (simp only [Int.reduceToNat] at ho25; rw [← Ny419.out] at ho25)); have n0_ := Aside0.mk (Kd.R_lower ho25 (below_size (by repeat (first | (with_reducible first | exact HB.out | apply below_alloc | apply pw_below_drewN | apply below_drew1) | exact HB.out)))); have n1_ := Aside0.mk (below_step (by repeat (first | (with_reducible first | exact HB.out | apply below_alloc | apply pw_below_drewN | apply below_drew1) | exact HB.out)) hb); clear HB; have HO421 := n0_; have HB := n1_; clear n0_ n1_; clear hb ho25) | ((with_reducible refine gate_builtin (b := .append) (xs := #[.tmp 30, .tmp 31]) rfl ?_); at_builtin; refine Kd.R_append_rows k106 (w0 := w) w.heap.size rfl (.tmp 30) (.tmp 31) 56 106 (.agg #[(.string ⟨#[]⟩), (.int .i64 0)]) 24 rfl Tryz.underlying56 info106 rfl (by decide) (by omega) v420 y419 l0 _ _ _ (fun _ => True) (fun _ => False) rfl rfl ?aO ?aR (fun _ _ h => h) (fun _ h => h.elim) ?aF ?aB ?aS ?aL ?_; (case aR => repeat (first | exact (Kd.C_below HR0.out HB.out) | (with_reducible refine Kd.C_alloc ?_ _) | (with_reducible refine Kd.C_drewN ?_ _) | (with_reducible refine Kd.C_drew ?_))); (case aB => exact (by repeat (first | (with_reducible first | exact HB.out | apply below_alloc | apply pw_below_drewN | apply below_drew1) | exact HB.out))); (case aF => exact (fun _ _ => trivial)); (case aO => exact (by (with_reducible repeat (first | apply Kd.R_alloc | apply Kd.R_drewN | apply Kd.R_drew)); exact HO421.out)); (case aS => exact (below_size (by repeat (first | (with_reducible first | exact HB.out | apply below_alloc | apply pw_below_drewN | apply below_drew1) | exact HB.out)))); (case aL => have := LMc20.out; omega); intro v423 w26 ho hb hg hat; rw [← Ny422.out] at ho; have n0_ := Aside0.mk (hb); have n1_ := Aside0.mk (ho); clear HB; clear HO421; have HB := n0_; have HO424 := n1_; clear n0_ n1_; clear ho hb hg hat; have p23 : 0 ≤ (t409 : Int) := of_decide_eq_true (by first | (with_reducible assumption) | assumption); have q23 : (t409 : Int) < ((y422.length : Int) : Int) := of_decide_eq_true (by first | (with_reducible assumption) | assumption); obtain ⟨go23, co23, eo23, gb23, gl23, cl23, HG23⟩ := Kd.R_form HO424.out (by omega); (first | cases eo23 | (injection eo23 with ea_ en_ ec_; (first | subst ea_ | (injection ea_ with ea_; subst ea_)); subst ec_; clear en_)); have GB23 := Aside0.mk gb23; have GG23 := Aside0.mk HG23; clear gb23 gl23 HG23; obtain ⟨ce23, hcl23, hM23, hcc23, hfr23⟩ := Kd.R_elem HO424.out z106 (t409 : Int) p23 q23; obtain rfl := k106_openM hM23; have hx23_0 : w26.cell? ⟨go23, (t409 : Int).toNat * 2, none⟩ = some (.string ((rd_T106 y422 t409).f0)) := hcc23 0 _ rfl; have hx23_1 : w26.cell? ⟨go23, (t409 : Int).toNat * 2 + 1, none⟩ = some (.int .i64 ((rd_T106 y422 t409).f1)) := hcc23 1 _ rfl; have hf23_0 : w26.frozen? ⟨go23, (t409 : Int).toNat * 2, none⟩ = false := hfr23 0; have hf23_1 : w26.frozen? ⟨go23, (t409 : Int).toNat * 2 + 1, none⟩ = false := hfr23 1; clear hcl23 hcc23 hfr23 hM23; replace p23 := eq_true p23; replace q23 := eq_true q23; have HX27 := Aside0.mk (show Kd.R k106 106 w26 w.heap.size (fun _ => True) (.slice (some ⟨go23, 0, none⟩) y422.length co23) y422 from (by (with_reducible repeat (first | apply Kd.R_alloc | apply Kd.R_drewN | apply Kd.R_drew)); exact HO424.out)); obtain ⟨ce27, hcl27, hM27, hcc27, hfr27⟩ := Kd.R_elem HX27.out z106 (t409 : Int) (of_decide_eq_true (by first | (with_reducible assumption) | assumption)) (by have h_ : (t409 : Int) < ((y422.length : Int) : Int) := of_decide_eq_true (by first | (with_reducible assumption) | assumption); first | exact h_ | (have e_ := (Kd.R_reads' HO424.out).1; omega) | simpa using h_); obtain rfl := k106_openM hM27; have HP27 := Kd.R_seg HX27.out (t409 : Int) (of_decide_eq_true (by first | (with_reducible assumption) | assumption)) (by have h_ : (t409 : Int) < ((y422.length : Int) : Int) := of_decide_eq_true (by first | (with_reducible assumption) | assumption); first | exact h_ | (have e_ := (Kd.R_reads' HO424.out).1; omega) | simpa using h_) (seg := [.string a2]) (j := 0) hcl27 hcc27 (show 1 ≤ 2 from by decide) (x' := (⟨a2, (rd_T106 y422 t409).f1⟩ : S106)) (k106_mkM _ _ _ (⟨a2, (rd_T106 y422 t409).f1⟩ : S106) ) (fun _ hk => hk); have hx27_0 := hcc27 0 _ rfl; (try simp only [show (k106).sz = 2 from rfl, Nat.mul_one, Nat.add_zero] at hx27_0); have hf27_0 := hfr27 0; (try simp only [show (k106).sz = 2 from rfl, Nat.mul_one, Nat.add_zero] at hf27_0); clear hcl27 hcc27 hfr27 hM27) | ((with_reducible refine gate_store (t := 9) (p := 37) rfl ?_); refine store_event (t := 9) (p := 37) (v := ?vo_w28) (w1 := (w26.setCell ⟨go23, (t409 : Int).toNat * 2, none⟩ (.string a2))) ?hg ?ho ?hn ?hr ?_; (case ho => rfl); (case hg => rfl); (case hn => rfl); (case hr => first | (go_simp; done) | (go_simp; rfl)); intro w28 hw; have hg : w26.grownBy w28 (some go23) := (by rw [hw]; exact HP27.2); have hp_ : Kd.R k106 106 w28 w.heap.size (fun _ => True) (.slice (some ⟨go23, 0, none⟩) y422.length co23) y425 := (by rw [hw, Ny425.out]; exact HP27.1); clear HP27; have n0_ := Aside0.mk (hp_); have n1_ := Aside0.mk ((by rw [hw]; exact below_set (HB.out) GB23.out : Below w.heap.size w w28)); clear HO424; clear HB; have HO424 := n0_; have HB := n1_; clear n0_ n1_; clear hg hw hp_))
                go_ret2
                exact ⟨_, by first | rfl | (simp [errW_none, errW_some] <;> rfl) | (simp [*, errW_none, errW_some] <;> rfl), by (with_reducible repeat (first | apply Kd.R_alloc | apply Kd.R_drewN | apply Kd.R_drew)); exact HO424.out, by repeat (first | (with_reducible first | exact HB.out | apply below_alloc | apply pw_below_drewN | apply below_drew1) | exact HB.out)⟩
              · rw [if_neg c22] at H
                exact absurd H (by simp)
            · rw [if_neg c21] at H
              exact absurd H (by simp)
          · rw [if_neg c20] at H
            exact absurd H (by simp)
    · replace c7 := Bool.eq_false_iff.mpr c7
      subst c7
      have H1 : (some (([] : List (S106)), 12)) = some (r1, r2) := by rw [if_neg (show ¬ (false = true) by decide)] at H; exact H
      clear H
      have H := H1
      clear H1
      simp only [Option.some.injEq, Prod.mk.injEq] at H
      obtain ⟨rfl, rfl⟩ := H
      go_enter Tryz.func54, Tryz.ntmps54
      go_wp2_with (first | ((with_reducible refine gate_callee (f := 44) rfl ?_); refine goesL_ (some 12) rfl rfl Tryz.func44 (by kernel_rfl) rfl #[.slice A0 l0.length c0, .string a1] rfl (by (try simp only [List.map_toArray, List.map_cons, List.map_nil]); first | done | rfl | (simp only [List.length_drop, List.length_take]; rfl)) ?_; (with_reducible refine (mailbagref9_At.calls k _ _ l0 a1 t409 _ ?side1 ?side2 A4.out).mono ?_); (case side1 => repeat (first | exact HR0.out | (with_reducible refine Kd.C_alloc ?_ _) | (with_reducible refine Kd.C_drewN ?_ _) | (with_reducible refine Kd.C_drew ?_))); (case side2 => exact HC0.out); rintro e w' ⟨rfl, ⟨nd, rfl⟩⟩; refine ⟨_, rfl, ?_⟩) | ((with_reducible refine gate_callee (f := 42) rfl ?_); refine goesL_ (some 18) rfl rfl Tryz.func42 (by kernel_rfl) rfl #[.string a2] rfl (by (try simp only [List.map_toArray, List.map_cons, List.map_nil]); first | done | rfl | (simp only [List.length_drop, List.length_take]; rfl)) ?_; (with_reducible refine (mailbagref9_Name.calls k a2 false _ A6.out).mono ?_); rintro e w' ⟨rfl, ⟨nd, rfl⟩⟩; refine ⟨_, rfl, ?_⟩))
      go_ret2
      exact ⟨_, by first | rfl | (simp [errW_none, errW_some] <;> rfl) | (simp [*, errW_none, errW_some] <;> rfl), by first | exact Kd.R_nil _ _ _ _ _ | exact Kd.N_nil _ _ _ _ _ | exact Kd.V_nil _ _ _ _ _ | exact Kd.Q_nil _ _ _ _ _ | exact Kd.S_nil _ _ _ _ _, by repeat (first | (with_reducible first | exact HB.out | apply below_alloc | apply pw_below_drewN | apply below_drew1) | exact HB.out)⟩
mutual
def mailbagref10_Split.j0 : Nat → ByteArray → Bool → Option (List ByteArray × Int)
  | 0, _, _ => none
  | k + 1, x0, x16 => if x16 = true then (some (([] : List ByteArray), 12)) else (if x0.toList = ([47] : List UInt8) then (some (([] : List ByteArray), 0)) else (mailbagref10_Split.l0 k x0 ([] : List ByteArray) 1 1))
def mailbagref10_Split.l0 : Nat → ByteArray → List ByteArray → Int → Int → Option (List ByteArray × Int)
  | 0, _, _, _, _ => none
  | k + 1, x0, x4, x5, x6 => if x6 ≤ (x0.size : Int) then (if x6 < (x0.size : Int) then (if 0 ≤ x6 then (mailbagref10_Split.j2 k x0 x4 x5 x6 ((bt x0 x6) != 47)) else (none)) else (mailbagref10_Split.j2 k x0 x4 x5 x6 false)) else (if (x4.length : Int) > 8 then (some (([] : List ByteArray), 5)) else (some (x4, 0)))
def mailbagref10_Split.j2 : Nat → ByteArray → List ByteArray → Int → Int → Bool → Option (List ByteArray × Int)
  | 0, _, _, _, _, _ => none
  | k + 1, x0, x4, x5, x6, x34 => if x34 = true then (mailbagref10_Split.l0 k x0 x4 x5 (wrap64 (x6 + 1))) else (if 0 ≤ x5 then (if x5 ≤ x6 then (if x6 ≤ (x0.size : Int) then ((mailbagref9_Name.f k (x0.extract (x5 : Int).toNat (x6 : Int).toNat)).bind fun t241 => (if t241 = true then (if x4.length < 8796093022208 then (mailbagref10_Split.l0 k x0 (x4 ++ [x0.extract (x5 : Int).toNat (x6 : Int).toNat]) (wrap64 (x6 + 1)) (wrap64 (x6 + 1))) else (none)) else (some (([] : List ByteArray), 12)))) else (none)) else (none)) else (none))
end
def mailbagref10_Split.f (k : Nat) (a0 : ByteArray) : Option (List ByteArray × Int) := if (a0.size : Int) > 256 then (some (([] : List ByteArray), 5)) else (if a0.toList = ([] : List UInt8) then (mailbagref10_Split.j0 k a0 true) else (if 0 < (a0.size : Int) then (mailbagref10_Split.j0 k a0 ((bt a0 0) != 47)) else (none)))
set_option maxHeartbeats 8000000 in
set_option maxRecDepth 100000 in
theorem mailbagref10_Split.calls (k : Nat) (a0 : ByteArray) (r1 : List ByteArray) (r2 : Int) (w : World) (h : mailbagref10_Split.f k a0 = some (r1, r2)) :
    Calls Tryz.prog 21 #[.string a0] w fun e w' => ∃ v0_ : Value, e = .returned (.tuple #[v0_, .int .i64 r2]) ∧ Kd.R Kd.string 9 w' w.heap.size (fun _ => True) v0_ r1 ∧ Below w.heap.size w w' := by
  have HB := Aside0.mk (Below.refl w.heap.size w)
  have H : (if (a0.size : Int) > 256 then (some (([] : List ByteArray), 5)) else (if a0.toList = ([] : List UInt8) then (mailbagref10_Split.j0 k a0 true) else (if 0 < (a0.size : Int) then (mailbagref10_Split.j0 k a0 ((bt a0 0) != 47)) else (none)))) = some (r1, r2) := h
  clear h
  by_cases c2 : (a0.size : Int) > 256
  · rw [if_pos c2] at H
    have c2b0 : decide (256 < (a0.size : Int)) = true := decide_eq_true c2
    have c2b1 : decide (256 < a0.size) = true := decide_eq_true (by omega)
    clear c2
    simp only [Option.some.injEq, Prod.mk.injEq] at H
    obtain ⟨rfl, rfl⟩ := H
    go_enter Tryz.func21, Tryz.ntmps21
    go_wp2
    go_ret2
    exact ⟨_, by first | rfl | (simp [errW_none, errW_some] <;> rfl) | (simp [*, errW_none, errW_some] <;> rfl), by first | exact Kd.R_nil _ _ _ _ _ | exact Kd.N_nil _ _ _ _ _ | exact Kd.V_nil _ _ _ _ _ | exact Kd.Q_nil _ _ _ _ _ | exact Kd.S_nil _ _ _ _ _, by repeat (first | (with_reducible first | exact HB.out | apply below_alloc | apply pw_below_drewN | apply below_drew1) | exact HB.out)⟩
  · rw [if_neg c2] at H
    have c2b0 : decide (256 < (a0.size : Int)) = false := decide_eq_false c2
    have c2b1 : decide (256 < a0.size) = false := decide_eq_false (by omega)
    clear c2
    have HC3 := Aside0.mk H
    clear H
    go_enter Tryz.func21, Tryz.ntmps21
    go_upto_region 3 with (fail)
    go_cut [16] (fun v16 wc => ∃ (kq : Nat) (x16_2 : Bool), v16 = .bool x16_2 ∧ Aside0 (mailbagref10_Split.j0 kq a0 x16_2 = some (r1, r2)) ∧ Aside0 (kq ≤ k) ∧ Aside0 (Below w.heap.size w wc))
    case first =>
      have H := HC3.out
      clear HC3
      by_cases c4 : a0.toList = ([] : List UInt8)
      · rw [if_pos c4] at H
        have c4b0 : (a0.toList == ([] : List UInt8)) = true := beq_iff_eq.mpr c4
        have c4b1 : (a0.toList != ([] : List UInt8)) = false := bne_eq_false_iff_eq.mpr c4
        clear c4
        (first | rw [c4b0] | (simp only [i64_w, i32_w]; rw [c4b0]) | skip)
        have H' := Aside0.mk H
        clear H
        go_wp2
        go_meet
        case rel => exact ⟨_, (true), (by first | rfl | (simp; done) | (simp [*]; done)), H', ⟨by first | omega | exact Nat.le_refl _⟩, ⟨by repeat (first | (with_reducible first | exact HB.out | apply below_alloc | apply pw_below_drewN | apply below_drew1) | exact HB.out)⟩⟩
      · rw [if_neg c4] at H
        have c4b0 : (a0.toList == ([] : List UInt8)) = false := beq_eq_false_iff_ne.mpr c4
        have c4b1 : (a0.toList != ([] : List UInt8)) = true := bne_iff_ne.mpr c4
        (first | rw [c4b0] | (simp only [i64_w, i32_w]; rw [c4b0]) | skip)
        by_cases c5 : 0 < (a0.size : Int)
        · rw [if_pos c5] at H
          have c5b0 : decide (0 < (a0.size : Int)) = true := decide_eq_true c5
          have c5b1 : decide (0 < a0.size) = true := decide_eq_true (by omega)
          clear c5
          have H' := Aside0.mk H
          clear H
          have p6 : 0 ≤ (0 : Int) := (by omega)
          have q6 : 0 < a0.size := (by have : (0 : Int) < (a0.size : Int) := of_decide_eq_true (by first | (with_reducible assumption) | assumption); omega)
          have hx6 : ∀ h : 0 < a0.size, ((a0[0]'h).toNat : Int) = bt a0 0 := bt_at a0 0
          clear p6
          have qi6 : (0 < (a0.size : Int)) = True := eq_true (of_decide_eq_true (by first | (with_reducible assumption) | assumption))
          replace q6 := eq_true q6
          go_wp2
          go_meet
          case rel => exact ⟨_, (((bt a0 0) != 47)), (by first | rfl | (simp; done) | (simp [*]; done)), H', ⟨by first | omega | exact Nat.le_refl _⟩, ⟨by repeat (first | (with_reducible first | exact HB.out | apply below_alloc | apply pw_below_drewN | apply below_drew1) | exact HB.out)⟩⟩
        · rw [if_neg c5] at H
          exact absurd H (by simp)
    case rest =>
      clear HC3
      try clear c2
      try clear c2b0
      try clear c2b1
      try clear p2
      try clear c4
      try clear c4b0
      try clear c4b1
      try clear c5
      try clear c5b0
      try clear c5b1
      try clear p6
      try clear q6
      try clear hx6
      try clear qi6
      try clear p6
      try clear q6
      obtain ⟨kq, x16_2, rfl, HA, HJ2, HB⟩ := hcut
      cases kq with
      | zero => exact absurd HA.out (by simp [mailbagref10_Split.j0])
      | succ kj2 =>
        have H := HA.out
        clear HA
        simp only [mailbagref10_Split.j0] at H
        by_cases c7 : x16_2 = true
        · subst c7
          have H1 : (some (([] : List ByteArray), 12)) = some (r1, r2) := by rw [if_pos rfl] at H; exact H
          clear H
          have H := H1
          clear H1
          simp only [Option.some.injEq, Prod.mk.injEq] at H
          obtain ⟨rfl, rfl⟩ := H
          go_wp2
          go_ret2
          exact ⟨_, by first | rfl | (simp [errW_none, errW_some] <;> rfl) | (simp [*, errW_none, errW_some] <;> rfl), by first | exact Kd.R_nil _ _ _ _ _ | exact Kd.N_nil _ _ _ _ _ | exact Kd.V_nil _ _ _ _ _ | exact Kd.Q_nil _ _ _ _ _ | exact Kd.S_nil _ _ _ _ _, by repeat (first | (with_reducible first | exact HB.out | apply below_alloc | apply pw_below_drewN | apply below_drew1) | exact HB.out)⟩
        · replace c7 := Bool.eq_false_iff.mpr c7
          subst c7
          have H1 : (if a0.toList = ([47] : List UInt8) then (some (([] : List ByteArray), 0)) else (mailbagref10_Split.l0 kj2 a0 ([] : List ByteArray) 1 1)) = some (r1, r2) := by rw [if_neg (show ¬ (false = true) by decide)] at H; exact H
          clear H
          have H := H1
          clear H1
          by_cases c8 : a0.toList = ([47] : List UInt8)
          · rw [if_pos c8] at H
            have c8b0 : (a0.toList == ([47] : List UInt8)) = true := beq_iff_eq.mpr c8
            have c8b1 : (a0.toList != ([47] : List UInt8)) = false := bne_eq_false_iff_eq.mpr c8
            clear c8
            simp only [Option.some.injEq, Prod.mk.injEq] at H
            obtain ⟨rfl, rfl⟩ := H
            go_wp2
            go_ret2
            exact ⟨_, by first | rfl | (simp [errW_none, errW_some] <;> rfl) | (simp [*, errW_none, errW_some] <;> rfl), by first | exact Kd.R_nil _ _ _ _ _ | exact Kd.N_nil _ _ _ _ _ | exact Kd.V_nil _ _ _ _ _ | exact Kd.Q_nil _ _ _ _ _ | exact Kd.S_nil _ _ _ _ _, by repeat (first | (with_reducible first | exact HB.out | apply below_alloc | apply pw_below_drewN | apply below_drew1) | exact HB.out)⟩
          · rw [if_neg c8] at H
            have c8b0 : (a0.toList == ([47] : List UInt8)) = false := beq_eq_false_iff_ne.mpr c8
            have c8b1 : (a0.toList != ([47] : List UInt8)) = true := bne_iff_ne.mpr c8
            have H' := Aside0.mk H
            clear H
            go_wp2
            go_loopg [4, 5, 6] kj2 (fun kq v4 v5 v6 w' => ∃ (x4_2 : List ByteArray) (x5_2 : Int) (x6_2 : Int), v5 = .int .i64 x5_2 ∧ v6 = .int .i64 x6_2 ∧ Aside0 (mailbagref10_Split.l0 kq a0 x4_2 x5_2 x6_2 = some (r1, r2)) ∧ Aside0 (kq ≤ kj2) ∧ Aside0 (Kd.R Kd.string 9 w' w.heap.size (fun _ => True) v4 x4_2) ∧ Aside0 (Below w.heap.size w w'))
            case atStart => exact ⟨(([] : List ByteArray)), (1), (1), (by first | rfl | (simp; done) | (simp [*]; done)), (by first | rfl | (simp; done) | (simp [*]; done)), H', ⟨Nat.le_refl _⟩, ⟨by first | exact Kd.R_nil _ _ _ _ _ | exact Kd.N_nil _ _ _ _ _ | exact Kd.V_nil _ _ _ _ _ | exact Kd.Q_nil _ _ _ _ _ | exact Kd.S_nil _ _ _ _ _⟩, ⟨by repeat (first | (with_reducible first | exact HB.out | apply below_alloc | apply pw_below_drewN | apply below_drew1) | exact HB.out)⟩⟩
            case round =>
              clear H'
              try clear c2
              try clear c2b0
              try clear c2b1
              try clear p2
              try clear c4
              try clear c4b0
              try clear c4b1
              try clear c5
              try clear c5b0
              try clear c5b1
              try clear p6
              try clear q6
              try clear hx6
              try clear qi6
              try clear c7
              try clear c8
              try clear c8b0
              try clear c8b1
              try clear p2
              try clear p6
              try clear q6
              obtain ⟨x4_2, x5_2, x6_2, rfl, rfl, HA, HK2, HO_4, HB⟩ := hrel
              cases gk with
              | zero => exact absurd HA.out (by simp [mailbagref10_Split.l0])
              | succ k2 =>
                have H := HA.out
                clear HA
                simp only [mailbagref10_Split.l0] at H
                by_cases c9 : x6_2 ≤ (a0.size : Int)
                · rw [if_pos c9] at H
                  have c9b0 : decide (x6_2 ≤ (a0.size : Int)) = true := decide_eq_true c9
                  clear c9
                  have HC10 := Aside0.mk H
                  clear H
                  go_upto_region 12 with (fail)
                  go_cut [34] (fun v34 wc => ∃ (kq : Nat) (x34_9 : Bool), v34 = .bool x34_9 ∧ Aside0 (mailbagref10_Split.j2 kq a0 x4_2 x5_2 x6_2 x34_9 = some (r1, r2)) ∧ Aside0 (kq ≤ k2) ∧ Aside0 (Kd.R Kd.string 9 wc w.heap.size (fun _ => True) u4 x4_2) ∧ Aside0 (Below w.heap.size w wc))
                  case first =>
                    have H := HC10.out
                    clear HC10
                    by_cases c11 : x6_2 < (a0.size : Int)
                    · rw [if_pos c11] at H
                      have c11b0 : decide (x6_2 < (a0.size : Int)) = true := decide_eq_true c11
                      clear c11
                      (first | rw [c11b0] | (simp only [i64_w, i32_w]; rw [c11b0]) | skip)
                      by_cases c12 : 0 ≤ x6_2
                      · rw [if_pos c12] at H
                        have c12b0 : decide (0 ≤ x6_2) = true := decide_eq_true c12
                        clear c12
                        have H' := Aside0.mk H
                        clear H
                        have p13 : 0 ≤ (x6_2 : Int) := of_decide_eq_true (by first | (with_reducible assumption) | assumption)
                        have q13 : x6_2 < (a0.size : Int) := of_decide_eq_true (by first | (with_reducible assumption) | assumption)
                        have hx13 := bt_at a0 x6_2
                        replace p13 := eq_true p13
                        replace q13 := eq_true q13
                        go_wp2
                        go_meet
                        case rel => exact ⟨_, (((bt a0 x6_2) != 47)), (by first | rfl | (simp; done) | (simp [*]; done)), H', ⟨by have := HJ2.out; have := HK2.out; first | omega | exact Nat.le_refl _⟩, ⟨by (with_reducible repeat (first | apply Kd.R_alloc | apply Kd.R_drewN | apply Kd.R_drew)); exact HO_4.out⟩, ⟨by repeat (first | (with_reducible first | exact HB.out | apply below_alloc | apply pw_below_drewN | apply below_drew1) | exact HB.out)⟩⟩
                      · rw [if_neg c12] at H
                        exact absurd H (by simp)
                    · rw [if_neg c11] at H
                      have c11b0 : decide (x6_2 < (a0.size : Int)) = false := decide_eq_false c11
                      clear c11
                      (first | rw [c11b0] | (simp only [i64_w, i32_w]; rw [c11b0]) | skip)
                      have H' := Aside0.mk H
                      clear H
                      go_wp2
                      go_meet
                      case rel => exact ⟨_, (false), (by first | rfl | (simp; done) | (simp [*]; done)), H', ⟨by have := HJ2.out; have := HK2.out; first | omega | exact Nat.le_refl _⟩, ⟨by (with_reducible repeat (first | apply Kd.R_alloc | apply Kd.R_drewN | apply Kd.R_drew)); exact HO_4.out⟩, ⟨by repeat (first | (with_reducible first | exact HB.out | apply below_alloc | apply pw_below_drewN | apply below_drew1) | exact HB.out)⟩⟩
                  case rest =>
                    clear HC10
                    try clear c1
                    try clear p1
                    try clear q1
                    try clear hx1
                    try clear c2
                    try clear c2b0
                    try clear c2b1
                    try clear p2
                    try clear c4
                    try clear c4b0
                    try clear c4b1
                    try clear c5
                    try clear c5b0
                    try clear c5b1
                    try clear p6
                    try clear q6
                    try clear hx6
                    try clear qi6
                    try clear c7
                    try clear c8
                    try clear c8b0
                    try clear c8b1
                    try clear c9
                    try clear c9b0
                    try clear c11
                    try clear c11b0
                    try clear c12
                    try clear c12b0
                    try clear p13
                    try clear q13
                    try clear hx13
                    try clear p13
                    try clear p2
                    try clear p6
                    try clear q13
                    try clear q6
                    obtain ⟨kq, x34_9, rfl, HA, HJ9, HO_4, HB⟩ := hcut
                    cases kq with
                    | zero => exact absurd HA.out (by simp [mailbagref10_Split.j2])
                    | succ kj9 =>
                      have H := HA.out
                      clear HA
                      simp only [mailbagref10_Split.j2] at H
                      by_cases c14 : x34_9 = true
                      · subst c14
                        have H1 : (mailbagref10_Split.l0 kj9 a0 x4_2 x5_2 (wrap64 (x6_2 + 1))) = some (r1, r2) := by rw [if_pos rfl] at H; exact H
                        clear H
                        have H := H1
                        clear H1
                        have H' := Aside0.mk H
                        clear H
                        go_wp2
                        go_roundg kj9
                        case measure => have := HJ2.out; have := HK2.out; have := HJ9.out; omega
                        case rel => exact ⟨(x4_2), (x5_2), (wrap64 (x6_2 + 1)), (by first | rfl | (simp; done) | (simp [*]; done)), (by first | rfl | (simp; done) | (simp [*]; done)), H', ⟨by have := HJ2.out; have := HK2.out; have := HJ9.out; omega⟩, ⟨by (with_reducible repeat (first | apply Kd.R_alloc | apply Kd.R_drewN | apply Kd.R_drew)); exact HO_4.out⟩, ⟨by repeat (first | (with_reducible first | exact HB.out | apply below_alloc | apply pw_below_drewN | apply below_drew1) | exact HB.out)⟩⟩
                      · replace c14 := Bool.eq_false_iff.mpr c14
                        subst c14
                        have H1 : (if 0 ≤ x5_2 then (if x5_2 ≤ x6_2 then (if x6_2 ≤ (a0.size : Int) then ((mailbagref9_Name.f kj9 (a0.extract (x5_2 : Int).toNat (x6_2 : Int).toNat)).bind fun t241 => (if t241 = true then (if x4_2.length < 8796093022208 then (mailbagref10_Split.l0 kj9 a0 (x4_2 ++ [a0.extract (x5_2 : Int).toNat (x6_2 : Int).toNat]) (wrap64 (x6_2 + 1)) (wrap64 (x6_2 + 1))) else (none)) else (some (([] : List ByteArray), 12)))) else (none)) else (none)) else (none)) = some (r1, r2) := by rw [if_neg (show ¬ (false = true) by decide)] at H; exact H
                        clear H
                        have H := H1
                        clear H1
                        by_cases c15 : 0 ≤ x5_2
                        · rw [if_pos c15] at H
                          have c15b0 := eq_true c15
                          have c15b1 : decide (0 ≤ x5_2) = true := decide_eq_true c15
                          clear c15
                          by_cases c16 : x5_2 ≤ x6_2
                          · rw [if_pos c16] at H
                            have c16b0 := eq_true c16
                            have c16b1 : decide (x5_2 ≤ x6_2) = true := decide_eq_true c16
                            clear c16
                            by_cases c17 : x6_2 ≤ (a0.size : Int)
                            · rw [if_pos c17] at H
                              have c17b0 := eq_true c17
                              have c17b1 : decide (x6_2 ≤ (a0.size : Int)) = true := decide_eq_true c17
                              clear c17
                              replace H := Option.bind_eq_some_iff.mp H
                              obtain ⟨t241, A180, H⟩ := H
                              replace H : (if t241 = true then (if x4_2.length < 8796093022208 then (mailbagref10_Split.l0 kj9 a0 (x4_2 ++ [a0.extract (x5_2 : Int).toNat (x6_2 : Int).toNat]) (wrap64 (x6_2 + 1)) (wrap64 (x6_2 + 1))) else (none)) else (some (([] : List ByteArray), 12))) = some (r1, r2) := H
                              have A18 := Aside0.mk A180
                              clear A180
                              by_cases c19 : t241 = true
                              · subst c19
                                have H1 : (if x4_2.length < 8796093022208 then (mailbagref10_Split.l0 kj9 a0 (x4_2 ++ [a0.extract (x5_2 : Int).toNat (x6_2 : Int).toNat]) (wrap64 (x6_2 + 1)) (wrap64 (x6_2 + 1))) else (none)) = some (r1, r2) := by rw [if_pos rfl] at H; exact H
                                clear H
                                have H := H1
                                clear H1
                                have c20b0 := eq_true (of_decide_eq_true (by first | (with_reducible assumption) | assumption) : 0 ≤ x5_2)
                                have c21b0 := eq_true (of_decide_eq_true (by first | (with_reducible assumption) | assumption) : x5_2 ≤ x6_2)
                                have c22b0 := eq_true (of_decide_eq_true (by first | (with_reducible assumption) | assumption) : x6_2 ≤ (a0.size : Int))
                                by_cases c23 : x4_2.length < 8796093022208
                                · rw [if_pos c23] at H
                                  have LMc23 := Aside0.mk c23
                                  clear c23
                                  obtain ⟨y242, hy242⟩ : ∃ y_ : List ByteArray, y_ = (x4_2 ++ [a0.extract (x5_2 : Int).toNat (x6_2 : Int).toNat]) := ⟨_, rfl⟩
                                  replace H : (mailbagref10_Split.l0 kj9 a0 y242 (wrap64 (x6_2 + 1)) (wrap64 (x6_2 + 1))) = some (r1, r2) := by first | (rw [hy242]; with_reducible exact H) | (have H2_ := (Option.bind_some _ _).symm.trans H; rw [hy242]; with_reducible exact H2_) | (have H2_ := (Option.bind_some _ _).symm.trans H; with_reducible exact H2_) | with_reducible exact H | (rw [hy242]; exact H) | exact H
                                  have Ny242 := Aside0.mk hy242
                                  clear hy242
                                  have H' := Aside0.mk H
                                  clear H
                                  go_wp2_with (first | ((with_reducible refine gate_callee (f := 42) rfl ?_); refine goesL_ (some 39) rfl rfl Tryz.func42 (by kernel_rfl) rfl #[.string (a0.extract (x5_2 : Int).toNat (x6_2 : Int).toNat)] rfl (by (try simp only [List.map_toArray, List.map_cons, List.map_nil]); first | done | rfl | (simp only [List.length_drop, List.length_take]; rfl)) ?_; (with_reducible refine (mailbagref9_Name.calls kj9 (a0.extract (x5_2 : Int).toNat (x6_2 : Int).toNat) true _ A18.out).mono ?_); rintro e w' ⟨rfl, ⟨nd, rfl⟩⟩; refine ⟨_, rfl, ?_⟩) | ((with_reducible refine gate_builtin (b := .append) (xs := #[.tmp 41, .tmp 46]) rfl ?_); at_builtin; refine Kd.R_append Kd.string (w0 := w) w.heap.size rfl (.tmp 41) (.tmp 46) 47 9 (.string ⟨#[]⟩) 16 rfl Tryz.underlying47 info9 rfl (by decide) (by omega) u4 x4_2 (a0.extract (x5_2 : Int).toNat (x6_2 : Int).toNat) [.string (a0.extract (x5_2 : Int).toNat (x6_2 : Int).toNat)] (fun _ => True) (fun _ => False) rfl rfl ?aP (fun _ hk => hk.elim) ?aF ?aO ?aB ?aS ?aL ?_; (case aP => exact rfl); (case aB => exact (by repeat (first | (with_reducible first | exact HB.out | apply below_alloc | apply pw_below_drewN | apply below_drew1) | exact HB.out))); (case aF => exact (fun _ _ => trivial)); (case aO => exact (by (with_reducible repeat (first | apply Kd.R_alloc | apply Kd.R_drewN | apply Kd.R_drew)); exact HO_4.out)); (case aS => exact (below_size (by repeat (first | (with_reducible first | exact HB.out | apply below_alloc | apply pw_below_drewN | apply below_drew1) | exact HB.out)))); (case aL => have := LMc23.out; omega); intro v243 w24 ho hb hg hat; rw [← Ny242.out] at ho; have n0_ := Aside0.mk (hb); have n1_ := Aside0.mk (ho); clear HB; clear HO_4; have HB := n0_; have HO244 := n1_; clear n0_ n1_; clear ho hb hg hat))
                                  go_roundg kj9
                                  case measure => have := HJ2.out; have := HK2.out; have := HJ9.out; omega
                                  case rel => exact ⟨(y242), (wrap64 (x6_2 + 1)), (wrap64 (x6_2 + 1)), (by first | rfl | (simp; done) | (simp [*]; done)), (by first | rfl | (simp; done) | (simp [*]; done)), H', ⟨by have := HJ2.out; have := HK2.out; have := HJ9.out; omega⟩, ⟨by (with_reducible repeat (first | apply Kd.R_alloc | apply Kd.R_drewN | apply Kd.R_drew)); exact HO244.out⟩, ⟨by repeat (first | (with_reducible first | exact HB.out | apply below_alloc | apply pw_below_drewN | apply below_drew1) | exact HB.out)⟩⟩
                                · rw [if_neg c23] at H
                                  exact absurd H (by simp)
                              · replace c19 := Bool.eq_false_iff.mpr c19
                                subst c19
                                have H1 : (some (([] : List ByteArray), 12)) = some (r1, r2) := by rw [if_neg (show ¬ (false = true) by decide)] at H; exact H
                                clear H
                                have H := H1
                                clear H1
                                simp only [Option.some.injEq, Prod.mk.injEq] at H
                                obtain ⟨rfl, rfl⟩ := H
                                go_wp2_with (first | ((with_reducible refine gate_callee (f := 42) rfl ?_); refine goesL_ (some 39) rfl rfl Tryz.func42 (by kernel_rfl) rfl #[.string (a0.extract (x5_2 : Int).toNat (x6_2 : Int).toNat)] rfl (by (try simp only [List.map_toArray, List.map_cons, List.map_nil]); first | done | rfl | (simp only [List.length_drop, List.length_take]; rfl)) ?_; (with_reducible refine (mailbagref9_Name.calls kj9 (a0.extract (x5_2 : Int).toNat (x6_2 : Int).toNat) false _ A18.out).mono ?_); rintro e w' ⟨rfl, ⟨nd, rfl⟩⟩; refine ⟨_, rfl, ?_⟩))
                                go_ret2
                                exact ⟨_, by first | rfl | (simp [errW_none, errW_some] <;> rfl) | (simp [*, errW_none, errW_some] <;> rfl), by first | exact Kd.R_nil _ _ _ _ _ | exact Kd.N_nil _ _ _ _ _ | exact Kd.V_nil _ _ _ _ _ | exact Kd.Q_nil _ _ _ _ _ | exact Kd.S_nil _ _ _ _ _, by repeat (first | (with_reducible first | exact HB.out | apply below_alloc | apply pw_below_drewN | apply below_drew1) | exact HB.out)⟩
                            · rw [if_neg c17] at H
                              exact absurd H (by simp)
                          · rw [if_neg c16] at H
                            exact absurd H (by simp)
                        · rw [if_neg c15] at H
                          exact absurd H (by simp)
                · rw [if_neg c9] at H
                  have c9b0 : decide (x6_2 ≤ (a0.size : Int)) = false := decide_eq_false c9
                  clear c9
                  by_cases c25 : (x4_2.length : Int) > 8
                  · rw [if_pos c25] at H
                    have c25b0 : decide (8 < (x4_2.length : Int)) = true := decide_eq_true c25
                    have c25b1 : decide (8 < x4_2.length) = true := decide_eq_true (by omega)
                    clear c25
                    simp only [Option.some.injEq, Prod.mk.injEq] at H
                    obtain ⟨rfl, rfl⟩ := H
                    obtain ⟨Ao26, co26, eo26⟩ := Kd.R_slice HO_4.out
                    subst eo26
                    go_wp2
                    go_ret2
                    exact ⟨_, by first | rfl | (simp [errW_none, errW_some] <;> rfl) | (simp [*, errW_none, errW_some] <;> rfl), by first | exact Kd.R_nil _ _ _ _ _ | exact Kd.N_nil _ _ _ _ _ | exact Kd.V_nil _ _ _ _ _ | exact Kd.Q_nil _ _ _ _ _ | exact Kd.S_nil _ _ _ _ _, by repeat (first | (with_reducible first | exact HB.out | apply below_alloc | apply pw_below_drewN | apply below_drew1) | exact HB.out)⟩
                  · rw [if_neg c25] at H
                    have c25b0 : decide (8 < (x4_2.length : Int)) = false := decide_eq_false c25
                    have c25b1 : decide (8 < x4_2.length) = false := decide_eq_false (by omega)
                    clear c25
                    simp only [Option.some.injEq, Prod.mk.injEq] at H
                    obtain ⟨rfl, rfl⟩ := H
                    obtain ⟨Ao27, co27, eo27⟩ := Kd.R_slice HO_4.out
                    subst eo27
                    go_wp2
                    go_ret2
                    exact ⟨_, by first | rfl | (simp [errW_none, errW_some] <;> rfl) | (simp [*, errW_none, errW_some] <;> rfl), by (with_reducible repeat (first | apply Kd.R_alloc | apply Kd.R_drewN | apply Kd.R_drew)); exact HO_4.out, by repeat (first | (with_reducible first | exact HB.out | apply below_alloc | apply pw_below_drewN | apply below_drew1) | exact HB.out)⟩
def slices_Equal_string_string.l0 : Nat → List ByteArray → List ByteArray → Int → Int → Option (Bool)
  | 0, _, _, _, _ => none
  | k + 1, x0, x1, x12, x13 => if x13 < x12 then (if 0 ≤ x13 then (if x13 < (x0.length : Int) then (if x13 < (x1.length : Int) then (if (rdOf ByteArray.empty x0 x13).toList = (rdOf ByteArray.empty x1 x13).toList then (slices_Equal_string_string.l0 k x0 x1 x12 (wrap64 (x13 + 1))) else (some false)) else (none)) else (none)) else (none)) else (some true)
def slices_Equal_string_string.f (k : Nat) (l0 : List ByteArray) (l1 : List ByteArray) : Option (Bool) := if (l0.length : Int) = (l1.length : Int) then (slices_Equal_string_string.l0 k l0 l1 (l0.length : Int) 0) else (some false)
set_option maxHeartbeats 8000000 in
set_option maxRecDepth 100000 in
theorem slices_Equal_string_string.calls (k : Nat) (A0 : Option Addr) (c0 : Nat) (l0 : List ByteArray) (A1 : Option Addr) (c1 : Nat) (l1 : List ByteArray) (r : Bool) (w : World) (hr0 : Kd.C Kd.string w A0 l0.length l0) (hc0 : l0.length ≤ c0) (hr1 : Kd.C Kd.string w A1 l1.length l1) (hc1 : l1.length ≤ c1) (h : slices_Equal_string_string.f k l0 l1 = some r) :
    Calls Tryz.prog 78 #[.slice A0 l0.length c0, .slice A1 l1.length c1] w fun e w' => e = .returned (.bool r) ∧ Drawn0 w w' := by
  have HR0 := Aside0.mk hr0
  have HC0 := Aside0.mk hc0
  clear hr0 hc0
  have HR1 := Aside0.mk hr1
  have HC1 := Aside0.mk hc1
  clear hr1 hc1
  have H : (if (l0.length : Int) = (l1.length : Int) then (slices_Equal_string_string.l0 k l0 l1 (l0.length : Int) 0) else (some false)) = some r := h
  clear h
  by_cases c3 : (l0.length : Int) = (l1.length : Int)
  · rw [if_pos c3] at H
    have c3b0 : ((l0.length : Int) == (l1.length : Int)) = true := beq_iff_eq.mpr c3
    have c3b1 : ((l0.length : Int) != (l1.length : Int)) = false := bne_eq_false_iff_eq.mpr c3
    have c3b2 : (l0.length == l1.length) = true := by first | simpa using c3 | (simp at c3 ⊢; omega)
    clear c3
    have H' := Aside0.mk H
    clear H
    go_enter Tryz.func78, Tryz.ntmps78
    go_wp2
    repeat (go_quiet (fail); try go_wp2)
    go_loopg [13] k (fun kq v13 w' => ∃ (x13_1 : Int), v13 = .int .i64 x13_1 ∧ Aside0 (slices_Equal_string_string.l0 kq l0 l1 (l0.length : Int) x13_1 = some r) ∧ Aside0 (kq ≤ k) ∧ Drawn0 w w')
    case atStart => exact ⟨(0), (by first | rfl | (simp; done) | (simp [*]; done)), H', ⟨Nat.le_refl _⟩, by repeat (first | exact Drawn0.refl _ | apply Drawn0.step)⟩
    case round =>
      clear H'
      try clear c1
      try clear p2
      try clear c3
      try clear c3b0
      try clear c3b1
      try clear c3b2
      obtain ⟨x13_1, rfl, HA, HK1, ⟨m1, rfl⟩⟩ := hrel
      cases gk with
      | zero => exact absurd HA.out (by simp [slices_Equal_string_string.l0])
      | succ k1 =>
        have H := HA.out
        clear HA
        simp only [slices_Equal_string_string.l0] at H
        by_cases c4 : x13_1 < (l0.length : Int)
        · rw [if_pos c4] at H
          have c4b0 : decide (x13_1 < (l0.length : Int)) = true := decide_eq_true c4
          clear c4
          by_cases c5 : 0 ≤ x13_1
          · rw [if_pos c5] at H
            have c5b0 : decide (0 ≤ x13_1) = true := decide_eq_true c5
            clear c5
            by_cases c6 : x13_1 < (l0.length : Int)
            · rw [if_pos c6] at H
              have c6b0 : decide (x13_1 < (l0.length : Int)) = true := decide_eq_true c6
              clear c6
              by_cases c7 : x13_1 < (l1.length : Int)
              · rw [if_pos c7] at H
                have c7b0 : decide (x13_1 < (l1.length : Int)) = true := decide_eq_true c7
                clear c7
                by_cases c8 : (rdOf ByteArray.empty l0 x13_1).toList = (rdOf ByteArray.empty l1 x13_1).toList
                · rw [if_pos c8] at H
                  have c8b0 : ((rdOf ByteArray.empty l0 x13_1).toList == (rdOf ByteArray.empty l1 x13_1).toList) = true := beq_iff_eq.mpr c8
                  have c8b1 : ((rdOf ByteArray.empty l0 x13_1).toList != (rdOf ByteArray.empty l1 x13_1).toList) = false := bne_eq_false_iff_eq.mpr c8
                  clear c8
                  have H' := Aside0.mk H
                  clear H
                  have p113 : 0 ≤ (x13_1 : Int) := of_decide_eq_true (by first | (with_reducible assumption) | assumption)
                  have q113 : x13_1 < (l0.length : Int) := of_decide_eq_true (by first | (with_reducible assumption) | assumption)
                  obtain ⟨ad113, e113, hx113_0⟩ := Kd.at_string HR0.out x13_1 p113 q113
                  cases e113
                  replace p113 := eq_true p113
                  replace q113 := eq_true q113
                  have p114 : 0 ≤ (x13_1 : Int) := of_decide_eq_true (by first | (with_reducible assumption) | assumption)
                  have q114 : x13_1 < (l1.length : Int) := of_decide_eq_true (by first | (with_reducible assumption) | assumption)
                  obtain ⟨ad114, e114, hx114_0⟩ := Kd.at_string HR1.out x13_1 p114 q114
                  cases e114
                  replace p114 := eq_true p114
                  replace q114 := eq_true q114
                  go_wp2
                  repeat (go_quiet (fail); try go_wp2)
                  go_roundg k1
                  case measure => have := HK1.out; omega
                  case rel => exact ⟨(wrap64 (x13_1 + 1)), (by first | rfl | (simp; done) | (simp [*]; done)), H', ⟨by have := HK1.out; omega⟩, by repeat (first | exact Drawn0.refl _ | apply Drawn0.step)⟩
                · rw [if_neg c8] at H
                  have c8b0 : ((rdOf ByteArray.empty l0 x13_1).toList == (rdOf ByteArray.empty l1 x13_1).toList) = false := beq_eq_false_iff_ne.mpr c8
                  have c8b1 : ((rdOf ByteArray.empty l0 x13_1).toList != (rdOf ByteArray.empty l1 x13_1).toList) = true := bne_iff_ne.mpr c8
                  obtain rfl := Option.some.inj H
                  have p113 : 0 ≤ (x13_1 : Int) := of_decide_eq_true (by first | (with_reducible assumption) | assumption)
                  have q113 : x13_1 < (l0.length : Int) := of_decide_eq_true (by first | (with_reducible assumption) | assumption)
                  obtain ⟨ad113, e113, hx113_0⟩ := Kd.at_string HR0.out x13_1 p113 q113
                  cases e113
                  replace p113 := eq_true p113
                  replace q113 := eq_true q113
                  have p114 : 0 ≤ (x13_1 : Int) := of_decide_eq_true (by first | (with_reducible assumption) | assumption)
                  have q114 : x13_1 < (l1.length : Int) := of_decide_eq_true (by first | (with_reducible assumption) | assumption)
                  obtain ⟨ad114, e114, hx114_0⟩ := Kd.at_string HR1.out x13_1 p114 q114
                  cases e114
                  replace p114 := eq_true p114
                  replace q114 := eq_true q114
                  go_wp2
                  repeat (go_quiet (fail); try go_wp2)
                  go_ret
                  exact ⟨by first | rfl | (simp; done) | (simp [*]; done), by repeat (first | exact Drawn0.refl _ | apply Drawn0.step)⟩
              · rw [if_neg c7] at H
                exact absurd H (by simp)
            · rw [if_neg c6] at H
              exact absurd H (by simp)
          · rw [if_neg c5] at H
            exact absurd H (by simp)
        · rw [if_neg c4] at H
          have c4b0 : decide (x13_1 < (l0.length : Int)) = false := decide_eq_false c4
          clear c4
          obtain rfl := Option.some.inj H
          go_wp2
          repeat (go_quiet (fail); try go_wp2)
          go_ret
          exact ⟨by first | rfl | (simp; done) | (simp [*]; done), by repeat (first | exact Drawn0.refl _ | apply Drawn0.step)⟩
  · rw [if_neg c3] at H
    have c3b0 : ((l0.length : Int) == (l1.length : Int)) = false := beq_eq_false_iff_ne.mpr c3
    have c3b1 : ((l0.length : Int) != (l1.length : Int)) = true := bne_iff_ne.mpr c3
    have c3b2 : (l0.length == l1.length) = false := by first | simpa using c3 | (simp at c3 ⊢; omega)
    obtain rfl := Option.some.inj H
    go_enter Tryz.func78, Tryz.ntmps78
    go_wp2
    repeat (go_quiet (fail); try go_wp2)
    go_ret
    exact ⟨by first | rfl | (simp; done) | (simp [*]; done), by repeat (first | exact Drawn0.refl _ | apply Drawn0.step)⟩
mutual
def dir_Name.j0 : Nat → ByteArray → Bool → Option (Bool)
  | 0, _, _ => none
  | k + 1, x0, x18 => if x18 = true then (some false) else (dir_Name.l0 k x0 (x0.size : Int) 0)
def dir_Name.l0 : Nat → ByteArray → Int → Int → Option (Bool)
  | 0, _, _, _ => none
  | k + 1, x0, x20, x21 => if x21 < x20 then (if 0 ≤ x21 then (if x21 < (x0.size : Int) then (if (bt x0 x21) < 33 then (some false) else (if (bt x0 x21) > 126 then (some false) else (if (bt x0 x21) = 47 then (some false) else (dir_Name.l0 k x0 x20 (wrap64 (x21 + 1)))))) else (none)) else (none)) else (some true)
end
def dir_Name.f (k : Nat) (a0 : ByteArray) : Option (Bool) := if a0.toList = ([] : List UInt8) then (dir_Name.j0 k a0 true) else (if (a0.size : Int) > 48 then (dir_Name.j0 k a0 true) else (if a0.toList = ([46] : List UInt8) then (dir_Name.j0 k a0 true) else (dir_Name.j0 k a0 (a0.toList == ([46, 46] : List UInt8)))))
set_option maxHeartbeats 8000000 in
set_option maxRecDepth 100000 in
theorem dir_Name.calls (k : Nat) (a0 : ByteArray) (r : Bool) (w : World) (h : dir_Name.f k a0 = some r) :
    Calls Tryz.prog 94 #[.string a0] w fun e w' => e = .returned (.bool r) ∧ Drawn0 w w' := by
  have H : (if a0.toList = ([] : List UInt8) then (dir_Name.j0 k a0 true) else (if (a0.size : Int) > 48 then (dir_Name.j0 k a0 true) else (if a0.toList = ([46] : List UInt8) then (dir_Name.j0 k a0 true) else (dir_Name.j0 k a0 (a0.toList == ([46, 46] : List UInt8)))))) = some r := h
  clear h
  have HC2 := Aside0.mk H
  clear H
  go_enter Tryz.func94, Tryz.ntmps94
  go_upto_region 1 with (fail)
  go_cut [18] (fun v18 wc => ∃ (kq : Nat) (x18_1 : Bool), v18 = .bool x18_1 ∧ Aside0 (dir_Name.j0 kq a0 x18_1 = some r) ∧ Aside0 (kq ≤ k) ∧ Drawn0 w wc)
  case first =>
    have H := HC2.out
    clear HC2
    by_cases c3 : a0.toList = ([] : List UInt8)
    · rw [if_pos c3] at H
      have c3b0 : (a0.toList == ([] : List UInt8)) = true := beq_iff_eq.mpr c3
      have c3b1 : (a0.toList != ([] : List UInt8)) = false := bne_eq_false_iff_eq.mpr c3
      clear c3
      (first | rw [c3b0] | (simp only [i64_w, i32_w]; rw [c3b0]) | skip)
      have H' := Aside0.mk H
      clear H
      go_wp2
      go_meet
      case rel => exact ⟨_, (true), (by first | rfl | (simp; done) | (simp [*]; done)), H', ⟨by first | omega | exact Nat.le_refl _⟩, by repeat (first | exact Drawn0.refl _ | apply Drawn0.step)⟩
    · rw [if_neg c3] at H
      have c3b0 : (a0.toList == ([] : List UInt8)) = false := beq_eq_false_iff_ne.mpr c3
      have c3b1 : (a0.toList != ([] : List UInt8)) = true := bne_iff_ne.mpr c3
      (first | rw [c3b0] | (simp only [i64_w, i32_w]; rw [c3b0]) | skip)
      by_cases c4 : (a0.size : Int) > 48
      · rw [if_pos c4] at H
        have c4b0 : decide (48 < (a0.size : Int)) = true := decide_eq_true c4
        have c4b1 : decide (48 < a0.size) = true := decide_eq_true (by omega)
        clear c4
        have H' := Aside0.mk H
        clear H
        go_wp2
        go_meet
        case rel => exact ⟨_, (true), (by first | rfl | (simp; done) | (simp [*]; done)), H', ⟨by first | omega | exact Nat.le_refl _⟩, by repeat (first | exact Drawn0.refl _ | apply Drawn0.step)⟩
      · rw [if_neg c4] at H
        have c4b0 : decide (48 < (a0.size : Int)) = false := decide_eq_false c4
        have c4b1 : decide (48 < a0.size) = false := decide_eq_false (by omega)
        clear c4
        by_cases c5 : a0.toList = ([46] : List UInt8)
        · rw [if_pos c5] at H
          have c5b0 : (a0.toList == ([46] : List UInt8)) = true := beq_iff_eq.mpr c5
          have c5b1 : (a0.toList != ([46] : List UInt8)) = false := bne_eq_false_iff_eq.mpr c5
          clear c5
          have H' := Aside0.mk H
          clear H
          go_wp2
          go_meet
          case rel => exact ⟨_, (true), (by first | rfl | (simp; done) | (simp [*]; done)), H', ⟨by first | omega | exact Nat.le_refl _⟩, by repeat (first | exact Drawn0.refl _ | apply Drawn0.step)⟩
        · rw [if_neg c5] at H
          have c5b0 : (a0.toList == ([46] : List UInt8)) = false := beq_eq_false_iff_ne.mpr c5
          have c5b1 : (a0.toList != ([46] : List UInt8)) = true := bne_iff_ne.mpr c5
          have H' := Aside0.mk H
          clear H
          go_wp2
          go_meet
          case rel => exact ⟨_, ((a0.toList == ([46, 46] : List UInt8))), (by first | rfl | (simp; done) | (simp [*]; done)), H', ⟨by first | omega | exact Nat.le_refl _⟩, by repeat (first | exact Drawn0.refl _ | apply Drawn0.step)⟩
  case rest =>
    clear HC2
    try clear p2
    try clear c3
    try clear c3b0
    try clear c3b1
    try clear c4
    try clear c4b0
    try clear c4b1
    try clear c5
    try clear c5b0
    try clear c5b1
    obtain ⟨kq, x18_1, rfl, HA, HJ1, ⟨mc1, rfl⟩⟩ := hcut
    cases kq with
    | zero => exact absurd HA.out (by simp [dir_Name.j0])
    | succ kj1 =>
      have H := HA.out
      clear HA
      simp only [dir_Name.j0] at H
      by_cases c6 : x18_1 = true
      · subst c6
        have H1 : (some false) = some r := by rw [if_pos rfl] at H; exact H
        clear H
        have H := H1
        clear H1
        obtain rfl := Option.some.inj H
        go_wp2
        go_ret
        exact ⟨by first | rfl | (simp; done) | (simp [*]; done), by repeat (first | exact Drawn0.refl _ | apply Drawn0.step)⟩
      · replace c6 := Bool.eq_false_iff.mpr c6
        subst c6
        have H1 : (dir_Name.l0 kj1 a0 (a0.size : Int) 0) = some r := by rw [if_neg (show ¬ (false = true) by decide)] at H; exact H
        clear H
        have H := H1
        clear H1
        have H' := Aside0.mk H
        clear H
        go_wp2
        go_loopg [21] kj1 (fun kq v21 w' => ∃ (x21_2 : Int), v21 = .int .i64 x21_2 ∧ Aside0 (dir_Name.l0 kq a0 (a0.size : Int) x21_2 = some r) ∧ Aside0 (kq ≤ kj1) ∧ Drawn0 w w')
        case atStart => exact ⟨(0), (by first | rfl | (simp; done) | (simp [*]; done)), H', ⟨Nat.le_refl _⟩, by repeat (first | exact Drawn0.refl _ | apply Drawn0.step)⟩
        case round =>
          clear H'
          try clear c1
          try clear p2
          try clear c3
          try clear c3b0
          try clear c3b1
          try clear c4
          try clear c4b0
          try clear c4b1
          try clear c5
          try clear c5b0
          try clear c5b1
          try clear c6
          try clear p2
          obtain ⟨x21_2, rfl, HA, HK2, ⟨m2, rfl⟩⟩ := hrel
          cases gk with
          | zero => exact absurd HA.out (by simp [dir_Name.l0])
          | succ k2 =>
            have H := HA.out
            clear HA
            simp only [dir_Name.l0] at H
            by_cases c7 : x21_2 < (a0.size : Int)
            · rw [if_pos c7] at H
              have c7b0 : decide (x21_2 < (a0.size : Int)) = true := decide_eq_true c7
              clear c7
              by_cases c8 : 0 ≤ x21_2
              · rw [if_pos c8] at H
                have c8b0 : decide (0 ≤ x21_2) = true := decide_eq_true c8
                clear c8
                by_cases c9 : x21_2 < (a0.size : Int)
                · rw [if_pos c9] at H
                  have c9b0 : decide (x21_2 < (a0.size : Int)) = true := decide_eq_true c9
                  clear c9
                  by_cases c11 : (bt a0 x21_2) < 33
                  · rw [if_pos c11] at H
                    have c11b0 : decide ((bt a0 x21_2) < 33) = true := decide_eq_true c11
                    clear c11
                    obtain rfl := Option.some.inj H
                    have p10 : 0 ≤ (x21_2 : Int) := of_decide_eq_true (by first | (with_reducible assumption) | assumption)
                    have q10 : x21_2 < (a0.size : Int) := of_decide_eq_true (by first | (with_reducible assumption) | assumption)
                    have hx10 := bt_at a0 x21_2
                    replace p10 := eq_true p10
                    replace q10 := eq_true q10
                    go_wp2
                    go_ret
                    exact ⟨by first | rfl | (simp; done) | (simp [*]; done), by repeat (first | exact Drawn0.refl _ | apply Drawn0.step)⟩
                  · rw [if_neg c11] at H
                    have c11b0 : decide ((bt a0 x21_2) < 33) = false := decide_eq_false c11
                    clear c11
                    by_cases c13 : (bt a0 x21_2) > 126
                    · rw [if_pos c13] at H
                      have c13b0 : decide (126 < (bt a0 x21_2)) = true := decide_eq_true c13
                      clear c13
                      obtain rfl := Option.some.inj H
                      have p10 : 0 ≤ (x21_2 : Int) := of_decide_eq_true (by first | (with_reducible assumption) | assumption)
                      have q10 : x21_2 < (a0.size : Int) := of_decide_eq_true (by first | (with_reducible assumption) | assumption)
                      have hx10 := bt_at a0 x21_2
                      replace p10 := eq_true p10
                      replace q10 := eq_true q10
                      have p12 : 0 ≤ (x21_2 : Int) := of_decide_eq_true (by first | (with_reducible assumption) | assumption)
                      have q12 : x21_2 < (a0.size : Int) := of_decide_eq_true (by first | (with_reducible assumption) | assumption)
                      have hx12 := bt_at a0 x21_2
                      replace p12 := eq_true p12
                      replace q12 := eq_true q12
                      go_wp2
                      go_ret
                      exact ⟨by first | rfl | (simp; done) | (simp [*]; done), by repeat (first | exact Drawn0.refl _ | apply Drawn0.step)⟩
                    · rw [if_neg c13] at H
                      have c13b0 : decide (126 < (bt a0 x21_2)) = false := decide_eq_false c13
                      clear c13
                      by_cases c15 : (bt a0 x21_2) = 47
                      · rw [if_pos c15] at H
                        have c15b0 : ((bt a0 x21_2) == 47) = true := beq_iff_eq.mpr c15
                        have c15b1 : ((bt a0 x21_2) != 47) = false := bne_eq_false_iff_eq.mpr c15
                        clear c15
                        obtain rfl := Option.some.inj H
                        have p10 : 0 ≤ (x21_2 : Int) := of_decide_eq_true (by first | (with_reducible assumption) | assumption)
                        have q10 : x21_2 < (a0.size : Int) := of_decide_eq_true (by first | (with_reducible assumption) | assumption)
                        have hx10 := bt_at a0 x21_2
                        replace p10 := eq_true p10
                        replace q10 := eq_true q10
                        have p12 : 0 ≤ (x21_2 : Int) := of_decide_eq_true (by first | (with_reducible assumption) | assumption)
                        have q12 : x21_2 < (a0.size : Int) := of_decide_eq_true (by first | (with_reducible assumption) | assumption)
                        have hx12 := bt_at a0 x21_2
                        replace p12 := eq_true p12
                        replace q12 := eq_true q12
                        have p14 : 0 ≤ (x21_2 : Int) := of_decide_eq_true (by first | (with_reducible assumption) | assumption)
                        have q14 : x21_2 < (a0.size : Int) := of_decide_eq_true (by first | (with_reducible assumption) | assumption)
                        have hx14 := bt_at a0 x21_2
                        replace p14 := eq_true p14
                        replace q14 := eq_true q14
                        go_wp2
                        go_ret
                        exact ⟨by first | rfl | (simp; done) | (simp [*]; done), by repeat (first | exact Drawn0.refl _ | apply Drawn0.step)⟩
                      · rw [if_neg c15] at H
                        have c15b0 : ((bt a0 x21_2) == 47) = false := beq_eq_false_iff_ne.mpr c15
                        have c15b1 : ((bt a0 x21_2) != 47) = true := bne_iff_ne.mpr c15
                        have H' := Aside0.mk H
                        clear H
                        have p10 : 0 ≤ (x21_2 : Int) := of_decide_eq_true (by first | (with_reducible assumption) | assumption)
                        have q10 : x21_2 < (a0.size : Int) := of_decide_eq_true (by first | (with_reducible assumption) | assumption)
                        have hx10 := bt_at a0 x21_2
                        replace p10 := eq_true p10
                        replace q10 := eq_true q10
                        have p12 : 0 ≤ (x21_2 : Int) := of_decide_eq_true (by first | (with_reducible assumption) | assumption)
                        have q12 : x21_2 < (a0.size : Int) := of_decide_eq_true (by first | (with_reducible assumption) | assumption)
                        have hx12 := bt_at a0 x21_2
                        replace p12 := eq_true p12
                        replace q12 := eq_true q12
                        have p14 : 0 ≤ (x21_2 : Int) := of_decide_eq_true (by first | (with_reducible assumption) | assumption)
                        have q14 : x21_2 < (a0.size : Int) := of_decide_eq_true (by first | (with_reducible assumption) | assumption)
                        have hx14 := bt_at a0 x21_2
                        replace p14 := eq_true p14
                        replace q14 := eq_true q14
                        go_wp2
                        go_roundg k2
                        case measure => have := HJ1.out; have := HK2.out; omega
                        case rel => exact ⟨(wrap64 (x21_2 + 1)), (by first | rfl | (simp; done) | (simp [*]; done)), H', ⟨by have := HJ1.out; have := HK2.out; omega⟩, by repeat (first | exact Drawn0.refl _ | apply Drawn0.step)⟩
                · rw [if_neg c9] at H
                  exact absurd H (by simp)
              · rw [if_neg c8] at H
                exact absurd H (by simp)
            · rw [if_neg c7] at H
              have c7b0 : decide (x21_2 < (a0.size : Int)) = false := decide_eq_false c7
              clear c7
              obtain rfl := Option.some.inj H
              go_wp2
              go_ret
              exact ⟨by first | rfl | (simp; done) | (simp [*]; done), by repeat (first | exact Drawn0.refl _ | apply Drawn0.step)⟩
def bytes_Equal.f (l0 : List Int) (l1 : List Int) : Option (Bool) := some ((strOfNums l0).toList == (strOfNums l1).toList)
set_option maxHeartbeats 8000000 in
set_option maxRecDepth 100000 in
theorem bytes_Equal.calls (A0 : Option Addr) (c0 : Nat) (l0 : List Int) (A1 : Option Addr) (c1 : Nat) (l1 : List Int) (r : Bool) (w : World) (hr0 : Kd.C (Kd.int .u8) w A0 l0.length l0) (hc0 : l0.length ≤ c0) (hr1 : Kd.C (Kd.int .u8) w A1 l1.length l1) (hc1 : l1.length ≤ c1) (h : bytes_Equal.f l0 l1 = some r) :
    Calls Tryz.prog 56 #[.slice A0 l0.length c0, .slice A1 l1.length c1] w fun e w' => e = .returned (.bool r) ∧ Drawn0 w w' := by
  have HR0 := Aside0.mk hr0
  have HC0 := Aside0.mk hc0
  clear hr0 hc0
  have HR1 := Aside0.mk hr1
  have HC1 := Aside0.mk hc1
  clear hr1 hc1
  have H : (some ((strOfNums l0).toList == (strOfNums l1).toList)) = some r := h
  clear h
  obtain rfl := Option.some.inj H
  have hcv3 := Kd.C_string (P := Tryz.prog) (A := A0) (c := c0) Tryz.underlying33 Tryz.underlying5 Tryz.underlying9 HR0.out
  have hcv4 := Kd.C_string (P := Tryz.prog) (A := A1) (c := c1) Tryz.underlying33 Tryz.underlying5 Tryz.underlying9 HR1.out
  go_enter Tryz.func56, Tryz.ntmps56
  go_wp2
  go_ret
  exact ⟨by first | rfl | (simp; done) | (simp [*]; done), by repeat (first | exact Drawn0.refl _ | apply Drawn0.step)⟩
end Go.Proofs.YtmjhflmkgmfjkaaGreatDoor.PTreeTwins
