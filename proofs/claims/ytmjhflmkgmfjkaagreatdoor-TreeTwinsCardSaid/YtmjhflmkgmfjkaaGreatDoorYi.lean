/- A part of the proof: Y19, Y20. -/
import Derived.Test.YtmjhflmkgmfjkaaGreatDoorYh
set_option linter.unusedVariables false
set_option linter.unusedSimpArgs false
namespace Go.Proofs.YtmjhflmkgmfjkaaGreatDoor
open Go.RowKit Go.Proofs.YtmjhflmkgmfjkaaGreatDoorW.PrintWords Go.Proofs.YtmjhflmkgmfjkaaGreatDoorW.PrintMore
open PTreeTwins (S58 S106 S35 z58 z106 k58 k106)
set_option maxRecDepth 100000 in
set_option maxHeartbeats 2000000 in
theorem rmake_nil (w : World) (q b : Nat) (r : RS) (h : RefAt w q b r) (A : Option Addr) (c : Nat) (dir : Bool) :
    Calls Tryz.prog 22 #[.pointer (some ⟨q, 0, none⟩), .slice A 0 c, .bool dir] w fun e w' => e = .returned (.int .i64 (rMake r [] dir).2) ∧ DidR w q b (rMake r [] dir).1 w' := by
  have HH := Lib.hid h
  clear h
  go_enter Tryz.func22, Tryz.ntmps22
  go_wp2
  go_ret
  exact ⟨rfl, DidR.none HH.out (Below.refl _ _)⟩
theorem rmake_all (w : World) (q b : Nat) (r : RS) (h : RefAt w q b r) {way : Nat → List ByteArray} (hG : Good r.L way) {N : Nat} (hL : Lim r N) (A : Option Addr) (c : Nat) (l : List ByteArray) (hl : Kd.C Kd.string w A l.length l) (hc : l.length ≤ c) (hlB : ∀ ad, A = some ad → l ≠ [] → ∃ cs fr, w.heap[ad.block]? = some (.cells cs 9 fr)) (hok : ∀ n ∈ l, nameOk n = true ∧ n ≠ ByteArray.empty) (dir : Bool) :
    Calls Tryz.prog 22 #[.pointer (some ⟨q, 0, none⟩), .slice A l.length c, .bool dir] w fun e w' => e = .returned (.int .i64 (rMake r l dir).2) ∧ DidR w q b (rMake r l dir).1 w' := by
  by_cases h0 : l = []
  · subst h0
    exact rmake_nil w q b r h A c dir
  · obtain ⟨d, nm, rfl⟩ : ∃ d nm, l = d ++ [nm] := ⟨l.dropLast, l.getLast h0, (List.dropLast_concat_getLast h0).symm⟩
    have hn := hok nm (by simp)
    simp only [List.length_append, List.length_singleton] at hl hc ⊢
    exact rmake_calls w q b r h hG hL A c d nm hl hc (fun ad e => hlB ad e (by simp)) hn.1 hn.2 dir
theorem rremove_all (w : World) (q b : Nat) (r : RS) (h : RefAt w q b r) {way : Nat → List ByteArray} (hG : Good r.L way) {N : Nat} (hL : Lim r N) (A : Option Addr) (c : Nat) (l : List ByteArray) (hl : Kd.C Kd.string w A l.length l) (hc : l.length ≤ c) (hlB : ∀ ad, A = some ad → l ≠ [] → ∃ cs fr, w.heap[ad.block]? = some (.cells cs 9 fr)) (dir : Bool) :
    Calls Tryz.prog 24 #[.pointer (some ⟨q, 0, none⟩), .slice A l.length c, .bool dir] w fun e w' => e = .returned (.int .i64 (rRemove r l dir).2) ∧ DidR w q b (rRemove r l dir).1 w' := by
  by_cases h0 : l = []
  · subst h0
    have hke : walkL r.L [] 0 = (0, 0) := rfl
    have hd := hG.root.2.1
    cases dir with
    | false =>
      have hres : rRemove r [] false = (r, 10) := by unfold rRemove; rw [hke]; simp [hd]
      rw [hres]
      exact rremove_bad w q b r h hG hL A c [] hl hc false 0 0 hke 10 hres (by decide) (.inr ⟨rfl, .inr (.inl ⟨⟨rfl, hd⟩, rfl⟩)⟩)
    | true =>
      have hres : rRemove r [] true = (r, 13) := by unfold rRemove; rw [hke]; simp [hd]
      rw [hres]
      exact rremove_bad w q b r h hG hL A c [] hl hc true 0 0 hke 13 hres (by decide) (.inr ⟨rfl, .inr (.inr ⟨⟨rfl, hd, .inl rfl⟩, rfl⟩)⟩)
  · exact rremove_calls w q b r h hG hL A c l hl hc (fun ad e => hlB ad e h0) dir
theorem rrename_calls (w : World) (q b : Nat) (r : RS) (h : RefAt w q b r) {way : Nat → List ByteArray} (hG : Good r.L way) {N : Nat} (hL : Lim r N) (A B : Option Addr) (cA cB : Nat) (l m : List ByteArray) (hl : Kd.C Kd.string w A l.length l) (hcA : l.length ≤ cA) (hm : Kd.C Kd.string w B m.length m) (hcB : m.length ≤ cB)
    (hlB : ∀ ad, A = some ad → l ≠ [] → ∃ cs fr, w.heap[ad.block]? = some (.cells cs 9 fr)) (hmB : ∀ ad, B = some ad → m ≠ [] → ∃ cs fr, w.heap[ad.block]? = some (.cells cs 9 fr)) (hok : ∀ n ∈ m, nameOk n = true ∧ n ≠ ByteArray.empty) :
    Calls Tryz.prog 25 #[.pointer (some ⟨q, 0, none⟩), .slice A l.length cA, .slice B m.length cB] w fun e w' => e = .returned (.int .i64 (rRename r l m).2) ∧ DidR w q b (rRename r l m).1 w' := by
  obtain ⟨k, e, hke⟩ : ∃ k e, walkL r.L l 0 = (k, e) := ⟨_, _, rfl⟩
  obtain ⟨td, e2, hke2⟩ : ∃ td e2, walkL r.L m.dropLast 0 = (td, e2) := ⟨_, _, rfl⟩
  have bad := fun (n : Int) (hres : rRename r l m = (r, n)) hcase => rrename_bad w q b r h hG hL A B cA cB l m hl hcA hm hcB k e hke n hres td e2 hke2 hcase
  by_cases he : e = 0
  · by_cases h0 : l = [] ∨ m = []
    · have hres : rRename r l m = (r, 13) := by unfold rRename; rw [hke]; simp only; rw [if_neg (by simpa using he), if_pos h0]
      rw [hres]
      exact bad 13 hres (.inr (.inl ⟨he, h0, rfl⟩))
    · have hl0 : l ≠ [] := fun e => h0 (.inl e)
      have hm0 : m ≠ [] := fun e => h0 (.inr e)
      by_cases he2 : e2 = 0
      · by_cases hd : (at_ r.L td).f1 = true
        · subst he; subst he2
          obtain ⟨d1, n1, rfl⟩ : ∃ d nm, l = d ++ [nm] := ⟨l.dropLast, l.getLast hl0, (List.dropLast_concat_getLast hl0).symm⟩
          obtain ⟨d2, n2, rfl⟩ : ∃ d nm, m = d ++ [nm] := ⟨m.dropLast, m.getLast hm0, (List.dropLast_concat_getLast hm0).symm⟩
          rw [List.dropLast_concat] at hke2
          have hn := hok n2 (by simp)
          simp only [List.length_append, List.length_singleton] at hl hm hcA hcB ⊢
          exact rrename_ok w q b r h hG hL A B cA cB d1 d2 n1 n2 hl hcA hm hcB (fun ad e => hlB ad e (by simp)) (fun ad e => hmB ad e (by simp)) hn.1 hn.2 k hke td hke2 hd (walkL r.L d1 0).1 (Prod.ext rfl (walk_parent hke).1)
        · have hd' : (at_ r.L td).f1 = false := by simpa using hd
          have hres : rRename r l m = (r, 11) := by unfold rRename; rw [hke]; simp only; rw [if_neg (by simpa using he), if_neg h0, hke2]; simp only; rw [if_neg (by simpa using he2), if_pos hd']
          rw [hres]
          exact bad 11 hres (.inr (.inr ⟨he, hl0, hm0, .inr ⟨he2, hd', rfl⟩⟩))
      · have hres : rRename r l m = (r, e2) := by unfold rRename; rw [hke]; simp only; rw [if_neg (by simpa using he), if_neg h0, hke2]; simp only; rw [if_pos he2]
        rw [hres]
        exact bad e2 hres (.inr (.inr ⟨he, hl0, hm0, .inl ⟨he2, rfl⟩⟩))
  · have hres : rRename r l m = (r, e) := by unfold rRename; rw [hke]; simp only; rw [if_pos he]
    rw [hres]
    exact bad e hres (.inl ⟨he, rfl⟩)
/-- a path's names, in a row of the call's own -/
theorem rsplit_calls (p : ByteArray) (w : World) : Calls Tryz.prog 21 #[.string p] w fun e w' => ∃ A c, e = .returned (.tuple #[.slice A (splitP p).1.length c, .int .i64 (splitP p).2]) ∧ (splitP p).1.length ≤ c ∧ Kd.C Kd.string w' A (splitP p).1.length (splitP p).1 ∧ (∀ ad, A = some ad → (splitP p).1 ≠ [] → ∃ cs fr, w'.heap[ad.block]? = some (.cells cs 9 fr)) ∧ Below w.heap.size w w' := by
  refine (PTreeTwins.mailbagref10_Split.calls 600 p _ _ w (refSplit_f p 600 (Nat.le_refl _))).mono ?_
  rintro e w' ⟨v, rfl, hR, hb⟩
  obtain ⟨A, c, rfl, hc, hC⟩ := Kd.R_reads hR
  refine ⟨A, c, rfl, hc, hC, fun ad e hne => ?_, hb⟩
  subst e
  obtain ⟨g, _, eA, _, _, cells, hcs⟩ := Kd.R_form hR (List.length_pos_iff.2 hne)
  cases eA
  exact ⟨cells, _, hcs⟩
end Go.Proofs.YtmjhflmkgmfjkaaGreatDoor
namespace Go.Proofs.YtmjhflmkgmfjkaaGreatDoor
open Go.RowKit Go.Proofs.YtmjhflmkgmfjkaaGreatDoorW.PrintWords Go.Proofs.YtmjhflmkgmfjkaaGreatDoorW.PrintMore
open PTreeTwins (S58 S106 S35 z58 z106 k58 k106)
set_option maxRecDepth 100000 in
set_option maxHeartbeats 4000000 in
theorem rdo_calls (w : World) (q b : Nat) (r : RS) (h : RefAt w q b r) {way : Nat → List ByteArray} (hG : Good r.L way) {N : Nat} (hL : Lim r N) (o : S35) (Ad : Option Addr) (cd : Nat) (hd : kB.C w Ad o.f3.length o.f3) (hcd : o.f3.length ≤ cd) (hdl : o.f3.length ≤ 10000000) :
    Calls Tryz.prog 9 #[.pointer (some ⟨q, 0, none⟩), opVal o.f0 o.f1 o.f2 Ad o.f3.length cd o.f4] w fun e w' => e = .returned (.int .i64 (rDo o r).2) ∧ DidR w q b (rDo o r).1 w' := by
  have HH := Lib.hid h
  have hqlt : q < w.heap.size := by obtain ⟨_, h1, _⟩ := h.row; exact h1.lt
  have hs1 := fun W => rsplit_calls o.f1 W
  have hs2 := fun W => rsplit_calls o.f2 W
  obtain ⟨l, e1, hl1⟩ : ∃ l e, splitP o.f1 = (l, e) := ⟨_, _, rfl⟩
  obtain ⟨m, e2, hl2⟩ : ∃ l e, splitP o.f2 = (l, e) := ⟨_, _, rfl⟩
  have hok1 := splitP_ok o.f1
  have hok2 := splitP_ok o.f2
  simp only [hl1] at hs1 hok1
  simp only [hl2] at hs2 hok2
  have hres : rDo o r = if o.f0 < 1 ∨ o.f0 > 7 then (r, 1) else if e1 ≠ 0 then (r, e1) else if o.f0 = 1 then rMake r l false else if o.f0 = 2 then rMake r l true else if o.f0 = 3 then rAppend r l o.f3 else if o.f0 = 4 then rCut r l o.f4 else if o.f0 = 5 then rRemove r l false else if o.f0 = 6 then rRemove r l true else if e2 ≠ 0 then (r, e2) else rRename r l m := by
    unfold rDo
    rw [hl1, hl2]
  have mk := fun W (hW : Below w.heap.size w W) (A : Option Addr) (c : Nat) (hl : Kd.C Kd.string W A l.length l) (hc : l.length ≤ c) hlB (dir : Bool) => rmake_all W q b r (h.below hW) hG hL A c l hl hc hlB hok1 dir
  have rm := fun W (hW : Below w.heap.size w W) (A : Option Addr) (c : Nat) (hl : Kd.C Kd.string W A l.length l) (hc : l.length ≤ c) hlB (dir : Bool) => rremove_all W q b r (h.below hW) hG hL A c l hl hc hlB dir
  have ap := fun W (hW : Below w.heap.size w W) (A : Option Addr) (c : Nat) (hl : Kd.C Kd.string W A l.length l) (hc : l.length ≤ c) => data_append W q b r (h.below hW) hG hL o.f1 o.f2 Ad cd o.f3 o.f4 (Kd.C_below hd hW) hcd hdl A c l hl hc
  have ct := fun W (hW : Below w.heap.size w W) (A : Option Addr) (c : Nat) (hl : Kd.C Kd.string W A l.length l) (hc : l.length ≤ c) => data_cut W q b r (h.below hW) hG hL o.f1 o.f2 (.slice Ad o.f3.length cd) ⟨_, _, _, rfl⟩ o.f4 A c l hl hc
  have rn := fun W (hW : Below w.heap.size w W) (A : Option Addr) (c : Nat) (hl : Kd.C Kd.string W A l.length l) (hc : l.length ≤ c) hlB (B : Option Addr) (cB : Nat) (hm : Kd.C Kd.string W B m.length m) (hcB : m.length ≤ cB) hmB => rrename_calls W q b r (h.below hW) hG hL A B c cB l m hl hc hm hcB hlB hmB hok2
  obtain ⟨res, hres'⟩ : ∃ res, res = rDo o r := ⟨_, rfl⟩
  rw [← hres']
  rw [← hres'] at hres
  have HRES := Lib.hid hres
  obtain ⟨f0, f1, f2, f3, f4⟩ := o
  unfold opVal at *
  simp only at *
  clear h hd hok1 hok2 hl1 hl2 hres' hres
  have dn : ∀ W, Below w.heap.size w W → DidR w q b r W := fun W hW => DidR.none HH.out hW
  by_cases k1 : f0 < 1
  · have d1 : decide (f0 < 1) = true := decide_eq_true k1
    clear hs1 hs2 mk rm ap ct rn
    go_enter Tryz.func9, Tryz.ntmps9
    go_wp2
    go_ret
    rw [HRES.out, if_pos (.inl k1)]
    exact ⟨rfl, dn _ ((Below.refl _ w).alloc (Nat.le_refl _) _)⟩
  by_cases k2 : f0 > 7
  · have d1 : decide (f0 < 1) = false := decide_eq_false k1
    have d2 : decide (7 < f0) = true := decide_eq_true k2
    clear hs1 hs2 mk rm ap ct rn
    go_enter Tryz.func9, Tryz.ntmps9
    go_wp2
    go_ret
    rw [HRES.out, if_pos (.inr k2)]
    exact ⟨rfl, dn _ ((Below.refl _ w).alloc (Nat.le_refl _) _)⟩
  by_cases k3 : e1 = 0
  · subst k3
    have hcase : f0 = 1 ∨ f0 = 2 ∨ f0 = 3 ∨ f0 = 4 ∨ f0 = 5 ∨ f0 = 6 ∨ f0 = 7 := by omega
    rcases hcase with rfl | rfl | rfl | rfl | rfl | rfl | rfl
    · clear hs2
      go_enter Tryz.func9, Tryz.ntmps9
      go_wp2_with (first
       | (go_at_call 21; with_reducible refine (hs1 _).mono ?_; rintro e w1 ⟨A, c, rfl, hcA, hA, hAB, hb1⟩
          have hB1 : Below w.heap.size w w1 := ((Below.refl _ w).alloc (Nat.le_refl _) _).trans (hb1.mono (by simp))
          have hz := (hb1.block w.heap.size (by simp)).trans (heap_alloc_new w (.cells #[.int .i64 1, .string f1, .string f2, .slice Ad f3.length cd, .int .i64 f4] 37))
          have z0 : w1.cell? ⟨w.heap.size, 0, none⟩ = some (.int .i64 1) := by simp [World.cell?, hz]
          have z1 : w1.cell? ⟨w.heap.size, 1, none⟩ = some (.string f1) := by simp [World.cell?, hz]
          have z2 : w1.cell? ⟨w.heap.size, 2, none⟩ = some (.string f2) := by simp [World.cell?, hz]
          have z3 : w1.cell? ⟨w.heap.size, 3, none⟩ = some (.slice Ad f3.length cd) := by simp [World.cell?, hz]
          have z4 : w1.cell? ⟨w.heap.size, 4, none⟩ = some (.int .i64 f4) := by simp [World.cell?, hz])
       | (go_at_call 22; refine (mk _ hB1 A c hA hcA hAB _).mono ?_; rintro e w2 ⟨rfl, hD⟩))
      go_ret
      have hr : res = rMake r l false := by rw [HRES.out]; simp
      rw [hr]
      exact ⟨rfl, DidR.trans (Keeps.of_below hB1) (.inl rfl) hD⟩
    · clear hs2
      go_enter Tryz.func9, Tryz.ntmps9
      go_wp2_with (first
       | (go_at_call 21; with_reducible refine (hs1 _).mono ?_; rintro e w1 ⟨A, c, rfl, hcA, hA, hAB, hb1⟩
          have hB1 : Below w.heap.size w w1 := ((Below.refl _ w).alloc (Nat.le_refl _) _).trans (hb1.mono (by simp))
          have hz := (hb1.block w.heap.size (by simp)).trans (heap_alloc_new w (.cells #[.int .i64 2, .string f1, .string f2, .slice Ad f3.length cd, .int .i64 f4] 37))
          have z0 : w1.cell? ⟨w.heap.size, 0, none⟩ = some (.int .i64 2) := by simp [World.cell?, hz]
          have z1 : w1.cell? ⟨w.heap.size, 1, none⟩ = some (.string f1) := by simp [World.cell?, hz]
          have z2 : w1.cell? ⟨w.heap.size, 2, none⟩ = some (.string f2) := by simp [World.cell?, hz]
          have z3 : w1.cell? ⟨w.heap.size, 3, none⟩ = some (.slice Ad f3.length cd) := by simp [World.cell?, hz]
          have z4 : w1.cell? ⟨w.heap.size, 4, none⟩ = some (.int .i64 f4) := by simp [World.cell?, hz])
       | (go_at_call 22; refine (mk _ hB1 A c hA hcA hAB _).mono ?_; rintro e w2 ⟨rfl, hD⟩))
      go_ret
      have hr : res = rMake r l true := by rw [HRES.out]; simp
      rw [hr]
      exact ⟨rfl, DidR.trans (Keeps.of_below hB1) (.inl rfl) hD⟩
    · clear hs2
      go_enter Tryz.func9, Tryz.ntmps9
      go_wp2_with (first
       | (go_at_call 21; with_reducible refine (hs1 _).mono ?_; rintro e w1 ⟨A, c, rfl, hcA, hA, hAB, hb1⟩
          have hB1 : Below w.heap.size w w1 := ((Below.refl _ w).alloc (Nat.le_refl _) _).trans (hb1.mono (by simp))
          have hz := (hb1.block w.heap.size (by simp)).trans (heap_alloc_new w (.cells #[.int .i64 3, .string f1, .string f2, .slice Ad f3.length cd, .int .i64 f4] 37))
          have z0 : w1.cell? ⟨w.heap.size, 0, none⟩ = some (.int .i64 3) := by simp [World.cell?, hz]
          have z1 : w1.cell? ⟨w.heap.size, 1, none⟩ = some (.string f1) := by simp [World.cell?, hz]
          have z2 : w1.cell? ⟨w.heap.size, 2, none⟩ = some (.string f2) := by simp [World.cell?, hz]
          have z3 : w1.cell? ⟨w.heap.size, 3, none⟩ = some (.slice Ad f3.length cd) := by simp [World.cell?, hz]
          have z4 : w1.cell? ⟨w.heap.size, 4, none⟩ = some (.int .i64 f4) := by simp [World.cell?, hz])
       | (go_at_call 23; refine (ap _ hB1 A c hA hcA).mono ?_; rintro e w2 ⟨rfl, hD⟩))
      go_ret
      have hr : res = rAppend r l f3 := by rw [HRES.out]; simp
      rw [hr]
      exact ⟨rfl, DidR.trans (Keeps.of_below hB1) (.inl rfl) hD⟩
    · clear hs2
      go_enter Tryz.func9, Tryz.ntmps9
      go_wp2_with (first
       | (go_at_call 21; with_reducible refine (hs1 _).mono ?_; rintro e w1 ⟨A, c, rfl, hcA, hA, hAB, hb1⟩
          have hB1 : Below w.heap.size w w1 := ((Below.refl _ w).alloc (Nat.le_refl _) _).trans (hb1.mono (by simp))
          have hz := (hb1.block w.heap.size (by simp)).trans (heap_alloc_new w (.cells #[.int .i64 4, .string f1, .string f2, .slice Ad f3.length cd, .int .i64 f4] 37))
          have z0 : w1.cell? ⟨w.heap.size, 0, none⟩ = some (.int .i64 4) := by simp [World.cell?, hz]
          have z1 : w1.cell? ⟨w.heap.size, 1, none⟩ = some (.string f1) := by simp [World.cell?, hz]
          have z2 : w1.cell? ⟨w.heap.size, 2, none⟩ = some (.string f2) := by simp [World.cell?, hz]
          have z3 : w1.cell? ⟨w.heap.size, 3, none⟩ = some (.slice Ad f3.length cd) := by simp [World.cell?, hz]
          have z4 : w1.cell? ⟨w.heap.size, 4, none⟩ = some (.int .i64 f4) := by simp [World.cell?, hz])
       | (go_at_call 23; refine (ct _ hB1 A c hA hcA).mono ?_; rintro e w2 ⟨rfl, hD⟩))
      go_ret
      have hr : res = rCut r l f4 := by rw [HRES.out]; simp
      rw [hr]
      exact ⟨rfl, DidR.trans (Keeps.of_below hB1) (.inl rfl) hD⟩
    · clear hs2
      go_enter Tryz.func9, Tryz.ntmps9
      go_wp2_with (first
       | (go_at_call 21; with_reducible refine (hs1 _).mono ?_; rintro e w1 ⟨A, c, rfl, hcA, hA, hAB, hb1⟩
          have hB1 : Below w.heap.size w w1 := ((Below.refl _ w).alloc (Nat.le_refl _) _).trans (hb1.mono (by simp))
          have hz := (hb1.block w.heap.size (by simp)).trans (heap_alloc_new w (.cells #[.int .i64 5, .string f1, .string f2, .slice Ad f3.length cd, .int .i64 f4] 37))
          have z0 : w1.cell? ⟨w.heap.size, 0, none⟩ = some (.int .i64 5) := by simp [World.cell?, hz]
          have z1 : w1.cell? ⟨w.heap.size, 1, none⟩ = some (.string f1) := by simp [World.cell?, hz]
          have z2 : w1.cell? ⟨w.heap.size, 2, none⟩ = some (.string f2) := by simp [World.cell?, hz]
          have z3 : w1.cell? ⟨w.heap.size, 3, none⟩ = some (.slice Ad f3.length cd) := by simp [World.cell?, hz]
          have z4 : w1.cell? ⟨w.heap.size, 4, none⟩ = some (.int .i64 f4) := by simp [World.cell?, hz])
       | (go_at_call 24; refine (rm _ hB1 A c hA hcA hAB _).mono ?_; rintro e w2 ⟨rfl, hD⟩))
      go_ret
      have hr : res = rRemove r l false := by rw [HRES.out]; simp
      rw [hr]
      exact ⟨rfl, DidR.trans (Keeps.of_below hB1) (.inl rfl) hD⟩
    · clear hs2
      go_enter Tryz.func9, Tryz.ntmps9
      go_wp2_with (first
       | (go_at_call 21; with_reducible refine (hs1 _).mono ?_; rintro e w1 ⟨A, c, rfl, hcA, hA, hAB, hb1⟩
          have hB1 : Below w.heap.size w w1 := ((Below.refl _ w).alloc (Nat.le_refl _) _).trans (hb1.mono (by simp))
          have hz := (hb1.block w.heap.size (by simp)).trans (heap_alloc_new w (.cells #[.int .i64 6, .string f1, .string f2, .slice Ad f3.length cd, .int .i64 f4] 37))
          have z0 : w1.cell? ⟨w.heap.size, 0, none⟩ = some (.int .i64 6) := by simp [World.cell?, hz]
          have z1 : w1.cell? ⟨w.heap.size, 1, none⟩ = some (.string f1) := by simp [World.cell?, hz]
          have z2 : w1.cell? ⟨w.heap.size, 2, none⟩ = some (.string f2) := by simp [World.cell?, hz]
          have z3 : w1.cell? ⟨w.heap.size, 3, none⟩ = some (.slice Ad f3.length cd) := by simp [World.cell?, hz]
          have z4 : w1.cell? ⟨w.heap.size, 4, none⟩ = some (.int .i64 f4) := by simp [World.cell?, hz])
       | (go_at_call 24; refine (rm _ hB1 A c hA hcA hAB _).mono ?_; rintro e w2 ⟨rfl, hD⟩))
      go_ret
      have hr : res = rRemove r l true := by rw [HRES.out]; simp
      rw [hr]
      exact ⟨rfl, DidR.trans (Keeps.of_below hB1) (.inl rfl) hD⟩
    · by_cases k4 : e2 = 0
      · subst k4
        go_enter Tryz.func9, Tryz.ntmps9
        go_wp2_with (first
       | (go_at_call 21; with_reducible refine (hs1 _).mono ?_; rintro e w1 ⟨A, c, rfl, hcA, hA, hAB, hb1⟩
          have hB1 : Below w.heap.size w w1 := ((Below.refl _ w).alloc (Nat.le_refl _) _).trans (hb1.mono (by simp))
          have hz := (hb1.block w.heap.size (by simp)).trans (heap_alloc_new w (.cells #[.int .i64 7, .string f1, .string f2, .slice Ad f3.length cd, .int .i64 f4] 37))
          have z0 : w1.cell? ⟨w.heap.size, 0, none⟩ = some (.int .i64 7) := by simp [World.cell?, hz]
          have z1 : w1.cell? ⟨w.heap.size, 1, none⟩ = some (.string f1) := by simp [World.cell?, hz]
          have z2 : w1.cell? ⟨w.heap.size, 2, none⟩ = some (.string f2) := by simp [World.cell?, hz]
          have z3 : w1.cell? ⟨w.heap.size, 3, none⟩ = some (.slice Ad f3.length cd) := by simp [World.cell?, hz]
          have z4 : w1.cell? ⟨w.heap.size, 4, none⟩ = some (.int .i64 f4) := by simp [World.cell?, hz])
       | (go_at_call 21; refine (hs2 _).mono ?_; rintro e w2 ⟨B, cB, rfl, hcB, hM, hMB, hb2⟩
          have hB2 : Below w.heap.size w w2 := hB1.trans (hb2.mono hB1.size)
          have hA2 := Kd.C_below hA hb2
          have hAB2 : ∀ ad, A = some ad → l ≠ [] → ∃ cs fr, w2.heap[ad.block]? = some (.cells cs 9 fr) := fun ad e hne => by
            obtain ⟨cs, fr, hh⟩ := hAB ad e hne
            exact ⟨cs, fr, (hb2.block _ (Array.getElem?_eq_some_iff.1 hh).1).trans hh⟩)
       | (go_at_call 25; refine (rn _ hB2 A c hA2 hcA hAB2 B cB hM hcB hMB).mono ?_; rintro e w3 ⟨rfl, hD⟩))
        go_ret
        have hr : res = rRename r l m := by rw [HRES.out]; simp
        rw [hr]
        exact ⟨rfl, DidR.trans (Keeps.of_below hB2) (.inl rfl) hD⟩
      · have d3 : (e2 != 0) = true := by simpa using k4
        go_enter Tryz.func9, Tryz.ntmps9
        go_wp2_with (first
       | (go_at_call 21; with_reducible refine (hs1 _).mono ?_; rintro e w1 ⟨A, c, rfl, hcA, hA, hAB, hb1⟩
          have hB1 : Below w.heap.size w w1 := ((Below.refl _ w).alloc (Nat.le_refl _) _).trans (hb1.mono (by simp))
          have hz := (hb1.block w.heap.size (by simp)).trans (heap_alloc_new w (.cells #[.int .i64 7, .string f1, .string f2, .slice Ad f3.length cd, .int .i64 f4] 37))
          have z0 : w1.cell? ⟨w.heap.size, 0, none⟩ = some (.int .i64 7) := by simp [World.cell?, hz]
          have z1 : w1.cell? ⟨w.heap.size, 1, none⟩ = some (.string f1) := by simp [World.cell?, hz]
          have z2 : w1.cell? ⟨w.heap.size, 2, none⟩ = some (.string f2) := by simp [World.cell?, hz]
          have z3 : w1.cell? ⟨w.heap.size, 3, none⟩ = some (.slice Ad f3.length cd) := by simp [World.cell?, hz]
          have z4 : w1.cell? ⟨w.heap.size, 4, none⟩ = some (.int .i64 f4) := by simp [World.cell?, hz])
       | (go_at_call 21; refine (hs2 _).mono ?_; rintro e w2 ⟨B, cB, rfl, hcB, hM, hMB, hb2⟩
          have hB2 : Below w.heap.size w w2 := hB1.trans (hb2.mono hB1.size)
          have hA2 := Kd.C_below hA hb2
          have hAB2 : ∀ ad, A = some ad → l ≠ [] → ∃ cs fr, w2.heap[ad.block]? = some (.cells cs 9 fr) := fun ad e hne => by
            obtain ⟨cs, fr, hh⟩ := hAB ad e hne
            exact ⟨cs, fr, (hb2.block _ (Array.getElem?_eq_some_iff.1 hh).1).trans hh⟩))
        go_ret
        have hr : res = (r, e2) := by rw [HRES.out]; simp [k4]
        rw [hr]
        exact ⟨rfl, dn _ hB2⟩
  · have d1 : decide (f0 < 1) = false := decide_eq_false k1
    have d2 : decide (7 < f0) = false := decide_eq_false k2
    have d3 : (e1 != 0) = true := by simpa using k3
    clear hs2 mk rm ap ct rn
    go_enter Tryz.func9, Tryz.ntmps9
    go_wp2_with (first
       | (go_at_call 21; with_reducible refine (hs1 _).mono ?_; rintro e w1 ⟨A, c, rfl, hcA, hA, hAB, hb1⟩
          have hB1 : Below w.heap.size w w1 := ((Below.refl _ w).alloc (Nat.le_refl _) _).trans (hb1.mono (by simp))
          have hz := (hb1.block w.heap.size (by simp)).trans (heap_alloc_new w (.cells #[.int .i64 f0, .string f1, .string f2, .slice Ad f3.length cd, .int .i64 f4] 37))
          have z0 : w1.cell? ⟨w.heap.size, 0, none⟩ = some (.int .i64 f0) := by simp [World.cell?, hz]
          have z1 : w1.cell? ⟨w.heap.size, 1, none⟩ = some (.string f1) := by simp [World.cell?, hz]
          have z2 : w1.cell? ⟨w.heap.size, 2, none⟩ = some (.string f2) := by simp [World.cell?, hz]
          have z3 : w1.cell? ⟨w.heap.size, 3, none⟩ = some (.slice Ad f3.length cd) := by simp [World.cell?, hz]
          have z4 : w1.cell? ⟨w.heap.size, 4, none⟩ = some (.int .i64 f4) := by simp [World.cell?, hz]))
    go_ret
    rw [HRES.out, if_neg (by omega), if_pos k3]
    exact ⟨rfl, dn _ hB1⟩
end Go.Proofs.YtmjhflmkgmfjkaaGreatDoor
