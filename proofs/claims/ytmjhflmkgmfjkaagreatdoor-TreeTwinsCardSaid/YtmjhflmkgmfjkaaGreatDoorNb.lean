/- A part of the proof: N7. -/
import Derived.Test.YtmjhflmkgmfjkaaGreatDoorNa
import Derived.Test.YtmjhflmkgmfjkaaGreatDoorPc
set_option linter.unusedVariables false
set_option linter.unusedSimpArgs false
namespace Go.Proofs.YtmjhflmkgmfjkaaGreatDoor
open Go.RowKit Go.Proofs.YtmjhflmkgmfjkaaGreatDoorW.PrintWords Go.Proofs.YtmjhflmkgmfjkaaGreatDoorW.PrintMore
open PTreeTwins (S58 S106 S35 z58 z106)
attribute [local instance] lawful_ba
/-- are two things the same, below them too? (d: more than how deep it goes) -/
def sameN : Nat → List S58 → Nat → List S58 → Nat → Bool
  | 0, _, _, _, _ => false
  | d + 1, L, i, M, j => decide ((at_ L i).f1 = (at_ M j).f1) && (decide (strOfNums (at_ L i).f2 = strOfNums (at_ M j).f2) && (decide ((named (at_ L i).f3).length = (named (at_ M j).f3).length) &&
      (named (at_ L i).f3).all fun e => match whose (at_ M j).f3 e.f0 with
        | some k => sameN d L (eix e) M k
        | none => false))
def sameQ (d : Nat) (L : List S58) (s : List S106) (M : List S58) (t : List S106) (n : ByteArray) : Bool := match whose s n with
  | some a => (match whose t n with
    | some b => sameN d L a M b
    | none => false)
  | none => false
theorem all_mem_congr {α : Type} {l : List α} {p q : α → Bool} (h : ∀ e ∈ l, p e = q e) : l.all p = l.all q := by
  induction l with
  | nil => rfl
  | cons x l ih => rw [List.all_cons, List.all_cons, h x (by simp), ih (fun e he => h e (by simp [he]))]
theorem eqKids_same {kv kv2 : List (ByteArray × Value)} {s t : List S106} {f f2 : Nat → Nat} {L M : List S58} (d : Nat) (hp : kv.Perm ((named s).map (entVal f))) (hp2 : kv2.Perm ((named t).map (entVal f2))) (hns : ((named s).map (·.f0)).Nodup) (hnd2 : (akeys kv2).Nodup) :
    eqKids kv kv2 (sameQ d L s M t) = (decide ((named s).length = (named t).length) && (named s).all fun e => match whose t e.f0 with | some k => sameN d L (eix e) M k | none => false) := by
  unfold eqKids
  have e1 : kv.length = (named s).length := by simpa using hp.length_eq
  have e2 : kv2.length = (named t).length := by simpa using hp2.length_eq
  rw [e1, e2, hp.all_eq, List.all_map]
  congr 1
  refine all_mem_congr (fun e he => ?_)
  have h1 : aget kv2 e.f0 = (whose t e.f0).map fun i => .pointer (some ⟨f2 i, 0, none⟩) := by rw [aget_perm hp2 hnd2, aget_ents]
  simp only [Function.comp, entVal, h1, sameQ, whose_named hns he, Option.isSome_map]
  cases whose t e.f0 with
  | none => rfl
  | some k => simp
theorem equal56 (A : Option Addr) (c : Nat) (l : List Int) (A2 : Option Addr) (c2 : Nat) (l2 : List Int) (w : World) (h : kB.C w A l.length l) (hc : l.length ≤ c) (h2 : kB.C w A2 l2.length l2) (hc2 : l2.length ≤ c2) :
    Calls Tryz.prog 56 #[.slice A l.length c, .slice A2 l2.length c2] w fun e w' => e = .returned (.bool (decide (strOfNums l = strOfNums l2))) ∧ ∃ n, w' = w.drewN n := by
  refine Calls.mono (PTreeTwins.bytes_Equal.calls A c l A2 c2 l2 _ w h hc h2 hc2 rfl) ?_
  rintro e w' ⟨rfl, hd⟩
  obtain ⟨n, rfl⟩ := hd.out
  refine ⟨?_, n, rfl⟩
  have : ((strOfNums l).toList == (strOfNums l2).toList) = decide (strOfNums l = strOfNums l2) := by
    by_cases h : strOfNums l = strOfNums l2
    · rw [h]; simp
    · rw [decide_eq_false h, beq_eq_false_iff_ne]
      exact fun e => h (by
        rw [ByteArray.toList_eq, ByteArray.toList_eq] at e
        exact ByteArray.ext (Array.toList_inj.1 e))
  rw [this]
set_option maxRecDepth 100000 in
set_option maxHeartbeats 2000000 in
/-- two nodes that differ in what they are -/
theorem same_apart (w : World) (b b2 : Nat) (p q : Bool) (dv kv dv2 kv2 : Value) (s s2 : Int) (h : NodeB w b p dv kv s) (h2 : NodeB w b2 q dv2 kv2 s2) (hne : p ≠ q) : Calls Tryz.prog 27 #[.pointer (some ⟨b, 0, none⟩), .pointer (some ⟨b2, 0, none⟩)] w fun e w' => e = .returned (.bool false) ∧ Below w.heap.size w w' := by
  obtain ⟨c0, c1, c2, c3⟩ := h.cells
  obtain ⟨d0, d1, d2, d3⟩ := h2.cells
  have hb : Below w.heap.size w w.drew := (Below.refl _ w).drew
  cases p <;> cases q <;> first | exact absurd rfl hne | skip
  all_goals
    go_enter Tryz.func27, Tryz.ntmps27
    go_wp2
    go_quiet (fail)
    go_wp2
    go_ret
    exact ⟨rfl, pw_below_drewN (Below.refl _ _) _⟩
set_option maxRecDepth 100000 in
set_option maxHeartbeats 2000000 in
theorem same_files (w : World) (b b2 : Nat) (x y : S58) (h : FileAt w b x) (h2 : FileAt w b2 y) : Calls Tryz.prog 27 #[.pointer (some ⟨b, 0, none⟩), .pointer (some ⟨b2, 0, none⟩)] w fun e w' => e = .returned (.bool (decide (strOfNums x.f2 = strOfNums y.f2))) ∧ Below w.heap.size w w' := by
  obtain ⟨v, hn, hv⟩ := h
  obtain ⟨v2, hn2, hv2⟩ := h2
  obtain ⟨A, c, rfl, hc, _⟩ := Kd.R_reads hv
  obtain ⟨A2, c2, rfl, hc2, _⟩ := Kd.R_reads hv2
  have h56 : ∀ m, Calls Tryz.prog 56 #[.slice A x.f2.length c, .slice A2 y.f2.length c2] (w.drewN m) fun e w' => e = .returned (.bool (decide (strOfNums x.f2 = strOfNums y.f2))) ∧ ∃ n, w' = (w.drewN m).drewN n := fun m => by
    obtain ⟨_, _, e1, _, k1⟩ := Kd.R_reads (Kd.R_below hv (pw_below_drewN (Below.refl _ _) m))
    obtain ⟨_, _, e2, _, k2⟩ := Kd.R_reads (Kd.R_below hv2 (pw_below_drewN (Below.refl _ _) m))
    cases e1; cases e2
    exact equal56 A c x.f2 A2 c2 y.f2 _ k1 hc k2 hc2
  obtain ⟨c0, c1, c2', c3⟩ := hn.cells
  obtain ⟨d0, d1, d2, d3⟩ := hn2.cells
  have hlt := hn.lt
  have hlt2 := hn2.lt
  generalize hq : decide (strOfNums x.f2 = strOfNums y.f2) = q at *
  generalize x.f2.length = n at *
  generalize y.f2.length = n2 at *
  clear hv hv2 hq
  cases q
  · go_enter Tryz.func27, Tryz.ntmps27
    go_wp2
    go_quiet ((go_at_call 56; exact Calls.quiet_of (h56 _)))
    go_wp2
    go_ret
    exact ⟨rfl, pw_below_drewN (Below.refl _ _) _⟩
  · have hcc := h56 1
    go_enter Tryz.func27, Tryz.ntmps27
    go_wp2
    go_region_held3 (fun W => W.cell? ⟨b, 0, none⟩ = some (.bool false) ∧ W.cell? ⟨b, 1, none⟩ = some (.slice A n c) ∧ W.cell? ⟨b, 2, none⟩ = some (.map none) ∧ W.cell? ⟨b2, 0, none⟩ = some (.bool false) ∧ W.cell? ⟨b2, 1, none⟩ = some (.slice A2 n2 c2) ∧ W.cell? ⟨b2, 2, none⟩ = some (.map none))
      (first | go_keep | (exact ⟨(hb2.cell (p := ⟨b, 0, none⟩) hlt).trans c0, (hb2.cell (p := ⟨b, 1, none⟩) hlt).trans c1, (hb2.cell (p := ⟨b, 2, none⟩) hlt).trans c2', (hb2.cell (p := ⟨b2, 0, none⟩) hlt2).trans d0, (hb2.cell (p := ⟨b2, 1, none⟩) hlt2).trans d1, (hb2.cell (p := ⟨b2, 2, none⟩) hlt2).trans d2⟩))
      (first
        | (go_at_call 56; refine hcc.mono ?_; rintro e w1 ⟨rfl, nq, rfl⟩)
        | (go_at_call 57; refine (equalFunc_nil _ _).mono ?_; rintro e w2 ⟨rfl, hb2⟩))
    all_goals
      go_wp2
      go_ret
      exact ⟨rfl, ⟨hb2.os, hb2.tape, hb2.output, hb2.size, hb2.block⟩⟩
end Go.Proofs.YtmjhflmkgmfjkaaGreatDoor
