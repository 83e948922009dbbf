/- A part of the proof: X9, L1. -/
import Derived.Sort.QuietTacIn
import Derived.RangeFuncCalls
import Derived.Test.YtmjhflmkgmfjkaaGreatDoorYk
import Derived.Test.YtmjhflmkgmfjkaaGreatDoorOa
import Derived.Test.YtmjhflmkgmfjkaaGreatDoorNd
set_option linter.unusedVariables false
set_option linter.unusedSimpArgs false
namespace Go.Proofs.YtmjhflmkgmfjkaaGreatDoor
open Go
theorem uponIn_inRound {F : Fence} {n : Nat} {P : Program} {o : Oper} {a : Act} {K K' : Act → World → Prop} {Q : Exit → Act → World → Prop} (lr : Nat) (hK : ∀ a w, K a w → K' a w) : ∀ r : Result Next, o.uponIn F n P a K Q r → o.uponIn (F.inRound lr) n P a K' Q r
  | .ok (.value _) _, h => hK _ _ h
  | .ok .skip _, h => hK _ _ h
  | .ok (.defer _) _, h => hK _ _ h
  | .ok (.enter _ _) _, h => ⟨h.1, (CallsIn.inRound lr h.2).mono fun e w' h' => by
      cases e with
      | returned v => exact hK _ _ h'
      | panicked c => exact h'
      | outgrown => exact h'⟩
  | .ok (.row _ _) _, h => ⟨h.1, by
      obtain ⟨_, h2⟩ := h
      intro fr cs hr
      obtain ⟨v, w'', hR, hs⟩ := h2 fr cs hr
      exact ⟨v, w'', hK _ _ hR, hs⟩⟩
  | .ok (.round _ _ _ _ _) _, h => ⟨h.1, h.2.1, by
      obtain ⟨_, _, h2⟩ := h
      intro fr cs hr
      obtain ⟨e, w'', hR, hs⟩ := h2 fr cs hr
      refine ⟨e, w'', ?_, hs⟩
      cases e with
      | returned v => exact hK _ _ hR
      | panicked c => exact hR
      | outgrown => exact hR⟩
  | .halt (.panic _) _, h => h
  | .halt (.unsupported _) _, h => h.elim
  | .halt (.stuck _) _, h => h.elim
theorem wpOpsIn_inRound {F : Fence} {n : Nat} {P : Program} {ops : Array Oper} {Q : Exit → Act → World → Prop} (hro : F.round = none) (lr : Nat) (hnd : ∀ (i : Nat) o, ops[i]? = some o → ∀ c, o.op ≠ .defer c) : ∀ (l : List Nat) (a : Act) (w : World), wpOpsIn F n P ops Q l a w → wpOpsIn (F.inRound lr) n P ops Q l a w
  | [], _, _, h => h
  | i :: rest, a, w, h => by
    unfold wpOpsIn at h ⊢
    cases ho : ops[i]? with
    | none => rw [ho] at h; exact wpOpsIn_inRound hro lr hnd rest a w h
    | some o =>
      rw [ho] at h
      simp only at h ⊢
      by_cases hw : Region.wanted o (yielded ops a.tmps) = true
      · rw [if_pos hw] at h ⊢
        unfold Oper.wpIn at h ⊢
        refine ⟨h.1, ?_⟩
        rw [Fence.inRound_round, Oper.semAt_some lr _ o (hnd i o ho)]
        have h2 := h.2
        rw [hro, Oper.semAt_none] at h2
        exact uponIn_inRound lr (fun a' w' h' => wpOpsIn_inRound hro lr hnd rest a' w' h') _ h2
      · rw [if_neg hw] at h ⊢
        exact ⟨h.1, wpOpsIn_inRound hro lr hnd rest _ _ h.2⟩
/-- no operation defers -/
def noDefer (l : List Oper) : Bool := l.all fun o => match o.op with | .defer _ => false | _ => true
theorem noDefer_spec {l : List Oper} (h : noDefer l = true) : ∀ (i : Nat) o, l.toArray[i]? = some o → ∀ c, o.op ≠ .defer c := fun i o ho c e => by
  have hm : o ∈ l := by
    rw [List.getElem?_toArray] at ho
    exact List.mem_of_getElem? ho
  have := List.all_eq_true.1 h o hm
  rw [e] at this
  cases this
theorem wpIn_region_quiet_round {F : Fence} {n : Nat} {P : Program} {id : Nat} {Q : Exit → Act → World → Prop} {a : Act} {w : World} {l : List Oper} (lr : Nat) (hro : F.round = none) (hm : P.follows .mixedOrders = true) (hB : Region.lexB .any l.toArray = true) (hnd : noDefer l = true)
    (h : wpQuietIn F n P l.toArray (fun w' => ∃ n, w' = w.drewN n) (fun a' => ∀ w', (∃ n, w' = w.drewN n) → Q .normal a' w') l a) : (Code.region id l.toArray true).wpIn (F.inRound lr) n P Q a w := by
  have hB' := hB
  simp only [Region.lexB, Bool.and_eq_true] at hB'
  have hC : (fun w' => ∃ n, w' = w.drewN n) { w with drawn := w.drawn + 1 } := ⟨1, rfl⟩
  have hany : wpAnyIn F n P .any l.toArray Q l.toArray.size (Array.replicate l.toArray.size false) a { w with drawn := w.drawn + 1 } := by
    refine wpAnyIn_of_quiet (Q := fun a' => ∀ w', (∃ n, w' = w.drewN n) → Q .normal a' w') (C := fun w' => ∃ n, w' = w.drewN n) hro (fun _ w' hw' h => h w' hw') _ _ _ _ hC ?_
    have := wpAnyQIn_lex (F := F) (n := n) (C := fun w' => ∃ n, w' = w.drewN n) (md := .any) hB'.1 l.toArray.toList 0 (Array.replicate l.toArray.size false) a (by simp) (by simpa using hB'.2) (by simpa using h)
    simpa using this
  refine wpIn_region_draw fun t => ?_
  simp only [Region.schedule, hm, Bool.true_or, if_true]
  exact wpOpsIn_inRound hro lr (noDefer_spec hnd) _ _ _ (wpAnyIn_sound l.toArray.size t _ a _ hany)
end Go.Proofs.YtmjhflmkgmfjkaaGreatDoor
namespace Go.Proofs.YtmjhflmkgmfjkaaGreatDoor
open Go.RowKit Go.Shelf Go.Maps Go.Sort Go.Proofs.YtmjhflmkgmfjkaaGreatDoorW.PrintWords Go.Proofs.YtmjhflmkgmfjkaaGreatDoorW.PrintMore
open PTreeTwins (S58 S106 S35 S76 S78 z58 z106 z78 k58 k106 k78)
attribute [local go_sem] Oper.semAt_some
attribute [local go_sem high] eqA_info eqA_row
theorem func_not_nil (v : Value) (W : World) : (binOp .eql 119 (.func (.func 86) #[] #[v]) .nilFunc).run Tryz.prog W = .ok (.bool false) W := by kernel_rfl
/-- the loop's own box of what a round is told -/
def InfoB (W : World) (b : Nat) (x : S58) : Prop := W.heap[b]? = some (.cells #[.bool x.f1, .int .i64 (sizeN x), .int .i64 (kidsN x)] 121 (0, 0))
/-- what the loop's rounds find -/
structure RoundAt (w : World) (B1 : Nat) (W : World) (t : Nat) (A : Option Addr) (n c : Nat) (k : Nat) : Prop where
  bt : Boxed W w.heap.size 25 (.pointer (some ⟨t, 0, none⟩))
  bx : Boxed W (w.heap.size + 1) 73 (.slice A n c)
  br : Boxed W (w.heap.size + 1 + 1) 4 (.bool false)
  bk : Boxed W (w.heap.size + 1 + 1 + 1) 3 (.int .i64 k)
  below : Below w.heap.size w W
  size : B1 ≤ W.heap.size
theorem RoundAt.below_ {w W W' : World} {B1 t : Nat} {A : Option Addr} {n c : Nat} {k : Nat} (h : RoundAt w B1 W t A n c k) (hb : Below W.heap.size W W') : RoundAt w B1 W' t A n c k :=
  ⟨(hb.block _ h.bt.lt).trans h.bt, (hb.block _ h.bx.lt).trans h.bx, (hb.block _ h.br.lt).trans h.br, (hb.block _ h.bk.lt).trans h.bk, h.below.trans (hb.mono h.below.size), Nat.le_trans h.size hb.size⟩
theorem RoundAt.next {w W : World} {B1 t : Nat} {A : Option Addr} {n c : Nat} {k : Nat} (h : RoundAt w B1 W t A n c k) : RoundAt w B1 (W.setCell ⟨w.heap.size + 1 + 1 + 1, 0, none⟩ (.int .i64 ((k : Int) + 1))) t A n c (k + 1) :=
  ⟨h.bt.other (by omega) _, h.bx.other (by omega) _, h.br.other (by omega) _, h.bk.set _, h.below.setCell (p := ⟨w.heap.size + 1 + 1 + 1, 0, none⟩) (by simp; omega) _, by simpa using h.size⟩
theorem RoundAt.own {α : Type} {w w1 : World} {t : Nat} {A : Option Addr} {n c : Nat} (hB : w.heap.size ≤ w1.heap.size) : OwnFrom w1.heap.size (fun (pre : List α) W => RoundAt w w1.heap.size W t A n c pre.length) := fun s X Y row hs hg hr => by
  have hb : ∀ k cs ty, X.heap[k]? = some (Obj.cells cs ty (0, 0)) → Y.heap[k]? = X.heap[k]? := fun k cs ty hk => hg.block k (Array.getElem?_eq_some_iff.1 hk).1 (fun e => by
    obtain ⟨_, o, ho, hc⟩ := hr k e.symm
    rw [hk] at ho; cases ho; cases hc)
  exact ⟨(hb _ _ _ hs.bt).trans hs.bt, (hb _ _ _ hs.bx).trans hs.bx, (hb _ _ _ hs.br).trans hs.br, (hb _ _ _ hs.bk).trans hs.bk, (ownFrom_below (w₀ := w) (n₀ := w.heap.size) (Nat.le_refl _) hB) () X Y row hs.below hg hr, Nat.le_trans hs.size hg.size⟩
theorem round_end {w W W' : World} {B1 t : Nat} {A : Option Addr} {n c : Nat} {k : Nat} (h : RoundAt w B1 W t A n c k) (hb : Below W.heap.size W W') (hB : w.heap.size + 1 + 1 + 1 < B1) :
    KeepsFrom B1 W (W'.setCell ⟨w.heap.size + 1 + 1 + 1, 0, none⟩ (.int .i64 ((k : Int) + 1))) ∧ Kq B1 (fun k => k = w.heap.size + 1 + 1 + 1) W (W'.setCell ⟨w.heap.size + 1 + 1 + 1, 0, none⟩ (.int .i64 ((k : Int) + 1))) ∧ RoundAt w B1 (W'.setCell ⟨w.heap.size + 1 + 1 + 1, 0, none⟩ (.int .i64 ((k : Int) + 1))) t A n c (k + 1) := by
  have hk : KeepsFrom B1 W W' := ⟨hb.size, fun i o _ hi _ => (hb.block i (Array.getElem?_eq_some_iff.1 hi).1).trans hi⟩
  exact ⟨hk.trans ((KeepsOthers.setCell _ _ _).from _), (Kq.of_below hb h.size).trans (Kq.setCell (S := fun k => k = w.heap.size + 1 + 1 + 1) _ _ hB rfl _), (h.below_ hb).next⟩
set_option maxRecDepth 100000 in
set_option maxHeartbeats 1000000 in
theorem lawRows_calls (w : World) (t : Nat) (f g : Nat → Nat) (way : Nat → List ByteArray) (r : RS) (N : Nat) (hI : ImplAt w t f g r) (hG : Good r.L way) (hL : Lim r N) (hN : NOk r.L) (d : Nat) (hd : ∀ j, Live r.L j → (way j).length < d)
    (A : Option Addr) (c : Nat) (X : List S78) (hX : X = rowsN d r.L 0 ByteArray.empty) (hC : Kd.C k78 w A X.length X) (hc : X.length ≤ c) (hlen : X.length ≤ 2001) :
    Calls Tryz.prog 28 #[.pointer (some ⟨t, 0, none⟩), .slice A X.length c] w fun e w' => e = .returned (.bool true) ∧ Below w.heap.size w w' := by
  refine (callsIn_wide (n := 9)).1 ?_
  have hdd : ∀ k : Nat, (Fence.wide.depth.isSome = true → 1 ≤ k) := fun k h => by cases h
  have fw58 : Fence.wide.fn 58 := trivial
  have fw16 : Fence.wide.fn 16 := trivial
  have hw58 := fun W (hW : Below w.heap.size w W) => treeWalk_calls W t f g way r (hI.below hW) hG hL.data
  have HX := Lib.hid hX
  clear hX
  have hnf := fun B : Nat => func_not_nil (.pointer (some ⟨B, 0, none⟩))
  refine callsIn_of_wp_marks Tryz.func28 rfl trivial ?_ rfl
  simp only [Tryz.ntmps28, List.size_toArray, List.length_cons, List.length_nil, Nat.reduceAdd, Nat.reduceSub, Array.replicate_succ, Array.replicate_zero, List.push_toArray, List.append_toArray, List.nil_append, List.cons_append]
  obtain ⟨W0, hW0⟩ : ∃ W0, W0 = (((w.alloc (.cells #[.pointer (some ⟨t, 0, none⟩)] 25)).alloc (.cells #[.slice A X.length c] 73)).alloc (.cells #[.bool false] 4)).alloc (.cells #[.int .i64 0] 3) := ⟨_, rfl⟩
  have hR0 : RoundAt w 0 W0 t A X.length c 0 := by
    have hb : Below w.heap.size w ((((w.alloc (.cells #[.pointer (some ⟨t, 0, none⟩)] 25)).alloc (.cells #[.slice A X.length c] 73)).alloc (.cells #[.bool false] 4)).alloc (.cells #[.int .i64 0] 3)) := below_alloc (below_alloc (below_alloc (below_alloc (Below.refl _ _) _) _) _) _
    have b1 := (((Boxed.new w 25 (.pointer (some ⟨t, 0, none⟩))).alloc (.cells #[.slice A X.length c] 73)).alloc (.cells #[.bool false] 4)).alloc (.cells #[.int .i64 0] 3)
    have b2 := ((Boxed.new (w.alloc (.cells #[.pointer (some ⟨t, 0, none⟩)] 25)) 73 (.slice A X.length c)).alloc (.cells #[.bool false] 4)).alloc (.cells #[.int .i64 0] 3)
    have b3 := (Boxed.new ((w.alloc (.cells #[.pointer (some ⟨t, 0, none⟩)] 25)).alloc (.cells #[.slice A X.length c] 73)) 4 (.bool false)).alloc (.cells #[.int .i64 0] 3)
    have b4 := Boxed.new (((w.alloc (.cells #[.pointer (some ⟨t, 0, none⟩)] 25)).alloc (.cells #[.slice A X.length c] 73)).alloc (.cells #[.bool false] 4)) 3 (.int .i64 0)
    simp only [World.size_alloc] at b2 b3 b4
    rw [hW0]
    exact ⟨b1, b2, b3, b4, hb, Nat.zero_le _⟩
  have h58 := hw58 W0 hR0.below
  gi_wp2_with (first
    | ((try refine ⟨hdd _, ?_⟩); gi_at_call 58; rw [← hW0]; refine (callsIn_wide.2 h58).mono ?_; rintro e w1 ⟨B, f1, g1, rfl, hb1, hc1, hB, hBl⟩; have hnf' := hnf B w1))
  have hR1' := hR0.below_ hb1
  have hR1 : RoundAt w w1.heap.size w1 t A X.length c 0 := ⟨hR1'.bt, hR1'.bx, hR1'.br, hR1'.bk, hR1'.below, Nat.le_refl _⟩
  clear hR1'
  have hsz := hb1.size
  have hk0 := hR0.bk.lt
  have hstop := walk_stops r.L way hG w1.heap.size 8 B (fun k => k = w.heap.size + 1 + 1 + 1) (fun i hi => by have := hL.slots i; have := hL.small; have : (named (at_ r.L i).f3).length ≤ (at_ r.L i).f3.length := List.length_filter_le _ _; omega) (fun i hi e he => by have := nameOk_size ((hN i).named he); omega) (fun i hi => by have := way_short hG hi; have := hL.things; have := hL.small; omega) f1 g1 d hd w1 hB.cell
    ⟨fun k hk => by subst hk; exact ⟨_, _, _, hR1.bk, by decide⟩, fun j hj => hc1.node j ((root_sub hG).1 hj), fun j hj => ⟨(hc1.hi ((root_sub hG).1 hj)).1, fun e => by have := (hc1.lo j ((root_sub hG).1 hj)).1; omega⟩, fun j hj hdj => ⟨(hc1.hi ((root_sub hG).1 hj)).2 hdj, fun e => by have := (hc1.lo j ((root_sub hG).1 hj)).2 hdj; omega⟩⟩ (Nat.le_refl _)
  refine wpIn_rangeFunc_ownH rfl (by decide) (gf := 86) (lb := #[.pointer (some ⟨B, 0, none⟩)]) rfl trivial (enters_of Tryz.func86 (by kernel_rfl) rfl)
    hstop (fun h k => h.trans k) (fun W l o o' hl hW ho _ => Kq.putObj W l o o' hl hW ho) (Below.refl _ _) (fun _ => rfl)
    (fun pre W => RoundAt w w1.heap.size W t A X.length c pre.length)
    (fun _ pre _ => ¬ pre <+: walkN d r.L 0 ByteArray.empty)
    (RoundAt.own (by omega))
    (fun _ _ _ _ _ hs _ _ => hs)
    hR1
    (fun x a' W => ∃ Bx, w.heap.size + 1 + 1 + 1 < Bx ∧ InfoB W Bx (at_ r.L x.2) ∧ a' = { tmps := #[.pointer (some ⟨t, 0, none⟩), .slice A X.length c, .pointer (some ⟨w.heap.size, 0, none⟩), .pointer (some ⟨w.heap.size + 1, 0, none⟩), .pointer (some ⟨w.heap.size + 1 + 1, 0, none⟩), .pointer (some ⟨w.heap.size + 1 + 1 + 1, 0, none⟩), .func (.func 86) #[] #[.pointer (some ⟨B, 0, none⟩)], .string x.1, .pointer (some ⟨Bx, 0, none⟩), undef, undef, .pointer (some ⟨t, 0, none⟩), .func (.func 86) #[] #[.pointer (some ⟨B, 0, none⟩)], .func (.func 86) #[] #[.pointer (some ⟨B, 0, none⟩)], .bool false, .func (.func 86) #[] #[.pointer (some ⟨B, 0, none⟩)], .string x.1, infoV (at_ r.L x.2), undef, undef, undef, undef, undef, undef, undef, undef, undef, undef, undef, undef, undef, undef, undef, undef, undef, undef, undef, undef, undef, undef, undef, undef, undef, undef, undef, undef, undef, undef, undef, undef, undef, undef, undef, undef, undef, undef, undef, undef, undef, undef, undef, undef, undef, undef, undef, undef, undef, undef, undef, undef, undef, undef], defers := [] })
    (fun x a' _ X Y row hs hg hr => by
      obtain ⟨Bx, h1, h2, h3⟩ := hs
      exact ⟨Bx, h1, (hg.block Bx (Array.getElem?_eq_some_iff.1 h2).1 (fun e => by obtain ⟨_, o, ho, hc⟩ := hr Bx e.symm; rw [h2] at ho; cases ho; cases hc)).trans h2, h3⟩)
    ?assign ?body ?done ?stop
  case assign =>
    rintro l pre x W K hP hK
    obtain ⟨y, hy⟩ : ∃ y, y = at_ r.L x.2 := ⟨_, rfl⟩
    have hiv : encP r.L x = #[.string x.1, .agg #[.bool y.f1, .int .i64 (sizeN y), .int .i64 (kidsN y)]] := by rw [hy]; rfl
    rw [hiv]
    gi_wp2
    exact hK _ _ ((KeepsOthers.alloc _ _).from _) (Kq.of_below ((Below.refl _ W).alloc (Nat.le_refl _) _) hP.size) (hP.below_ ((Below.refl _ W).alloc (Nat.le_refl _) _)) ⟨W.heap.size, hP.bk.lt, by rw [← hy]; exact World.alloc_heap_new W _, by rw [← hy]; rfl⟩
  case body =>
    rintro l pre x a' W hl _ hP ⟨Bx, hBx, bX, rfl⟩ hlt
    have hlX : (walkN d r.L 0 ByteArray.empty).length = X.length := by rw [HX.out]; simp [rowsN]
    have hkX : pre.length < X.length := by omega
    have c2 := hP.bt.cell
    have c3 := hP.bx.cell
    have c4 := hP.br.cell
    have c5 := hP.bk.cell
    have f4 := hP.br.frozen
    have f5 := hP.bk.frozen
    have HP := Lib.hid hP
    have HBX := Lib.hid bX
    obtain ⟨ad, rfl, hcx⟩ := row_cells (Kd.C_below hC hP.below) hkX
    obtain ⟨y0, y1, y2, y3, y4⟩ := hcx W ⟨0, rfl⟩
    have z := fun o => (by simp [World.cell?, show W.heap[Bx]? = _ from bX] : W.cell? ⟨Bx, o, none⟩ = (#[.bool (at_ r.L x.2).f1, .int .i64 (sizeN (at_ r.L x.2)), .int .i64 (kidsN (at_ r.L x.2))] : Array Value)[o]?)
    have z0 := z 0
    have z1 := z 1
    have z2 := z 2
    simp at z0 z1 z2
    obtain ⟨y, hy⟩ : ∃ y, y = X[pre.length] := ⟨_, rfl⟩
    rw [← hy] at y0 y1 y2 y3 y4
    obtain ⟨k, hk⟩ : ∃ k, k = pre.length := ⟨_, rfl⟩
    rw [← hk] at y0 y1 y2 y3 y4 c5 hkX
    have hki : (k : Int) < (X.length : Int) := by omega
    have hread := fun W' (hW' : Below w.heap.size w W') => read_calls W' t f g way r (hI.below hW') hG x.1 hL.data
    have hyr : ∀ hk' : k < (walkN d r.L 0 ByteArray.empty).length, y = rowOf r.L ((walkN d r.L 0 ByteArray.empty)[k]) := fun hk' => by
      subst hk
      rw [hy, ← List.getElem_map (rowOf r.L) (h := by simpa using hk')]
      exact List.getElem_of_eq (show X = _ by rw [HX.out]; rfl) _
    have hnp : (x.1 ≠ y.f0 ∨ (at_ r.L x.2).f1 ≠ y.f1.f0 ∨ sizeN (at_ r.L x.2) ≠ y.f1.f1 ∨ kidsN (at_ r.L x.2) ≠ y.f1.f2) → ¬ (pre ++ [x]) <+: walkN d r.L 0 ByteArray.empty := fun h hp => by
      have hk' : k < (walkN d r.L 0 ByteArray.empty).length := by omega
      have e1 : (walkN d r.L 0 ByteArray.empty)[k] = x := by
        obtain ⟨s, hs⟩ := hp
        subst hk
        have := List.getElem_of_eq hs.symm hk'
        rw [this]
        simp
      have := hyr hk'
      rw [e1] at this
      rw [this] at h
      unfold rowOf at h
      simp at h
    have hrd : x.1 = y.f0 → (readOf r.L x.1).2 = 0 → strOfNums (readOf r.L x.1).1 = y.f2 := fun h h0 => by
      have hk' : k < (walkN d r.L 0 ByteArray.empty).length := by omega
      have e1 := hyr hk'
      have e2 : x.1 = ((walkN d r.L 0 ByteArray.empty)[k]).1 := by rw [h, e1]; rfl
      have := read_row hG hN d (List.getElem_mem hk') (by rw [← e2]; exact h0)
      rw [← e2] at this
      rw [this, e1]; rfl
    have HNP := Lib.hid hnp
    have HRD := Lib.hid hrd
    have HKK := Lib.hid hk
    have HY := Lib.hid hy
    clear z hcx bX hP hnp hrd hyr hk hy
    by_cases hb1 : x.1 = y.f0
    · have hq1 : (x.1.toList == y.f0.toList) = true := by rw [hb1]; simp
      by_cases hb2 : (at_ r.L x.2).f1 = y.f1.f0 ∧ sizeN (at_ r.L x.2) = y.f1.f1 ∧ kidsN (at_ r.L x.2) = y.f1.f2
      · obtain ⟨g1, g2, g3⟩ := hb2
        have g1' : ((at_ r.L x.2).f1 == y.f1.f0) = true := by rw [g1]; simp
        have g2' : (sizeN (at_ r.L x.2) == y.f1.f1) = true := by rw [g2]; simp
        have g3' : (kidsN (at_ r.L x.2) == y.f1.f2) = true := by rw [g3]; simp
        have hrd := HRD.out hb1
        rw [hb1] at hread hrd
        have HRD2 := Lib.hid hrd
        clear hrd HRD
        gi_wp2
        refine wpIn_region_quiet_round (F := Fence.wide) l rfl (by kernel_rfl) (by kernel_rfl) (by kernel_rfl) ?_
        repeat (quiet_step_in (fail))
        refine wpQuietIn_nil ?_
        rintro _ ⟨nq, rfl⟩
        gi_wp2_with ((try refine ⟨hdd _, ?_⟩); gi_at_call 16; with_reducible refine (CallsIn.inRound l (callsIn_wide.2 (hread (W.drewN nq) (pw_below_drewN HP.out.below _)))).mono ?_; rintro e w4 ⟨v, rfl, hv4, hb4⟩)
        · have hE := round_end HP.out (W' := W.drewN nq) (pw_below_drewN (Below.refl _ _) _) (by omega)
          rw [← HKK.out] at hE
          exact ⟨hE.1, hE.2.1, by dsimp only; rw [show (pre ++ [x]).length = k + 1 by rw [HKK.out]; simp]; exact hE.2.2⟩
        · obtain ⟨A4, c4', rfl, hc4', hC4⟩ := Kd.R_reads hv4
          have hb5 : Below W.heap.size W w4 := ⟨hb4.os, hb4.tape, hb4.output, hb4.size, hb4.block⟩
          have q0 := ((RoundAt.below_ HP.out hb5).bx).cell
          have q1 := ((RoundAt.below_ HP.out hb5).bk).cell
          have q2 := ((RoundAt.below_ HP.out hb5).bk).frozen
          rw [← HKK.out] at q1
          have q4 := (hb5.cell (p := ⟨(ad.add (k * 5)).block, (ad.add (k * 5)).off + 4, none⟩) (World.block_lt_of_cell? W _ y4)).trans y4
          by_cases h0 : (readOf r.L y.f0).2 = 0
          · have hs := HRD2.out h0
            have hcv : ∀ m, (convert 33 9 (.slice A4 (readOf r.L y.f0).1.length c4')).run Tryz.prog (w4.drewN m) = .ok (.string y.f2) (w4.drewN m) := fun m => by
              rw [← hs]
              exact Kd.C_string Tryz.underlying33 Tryz.underlying5 Tryz.underlying9 (Kd.C_drewN hC4 m)
            have h0' : ((readOf r.L y.f0).2 == 0) = true := by rw [h0]; rfl
            clear hs hv4 hC4
            generalize (readOf r.L y.f0).1.length = nr at *
            generalize (readOf r.L y.f0).2 = er at *
            refine wpIn_region_quiet_round (F := Fence.wide) l rfl (by kernel_rfl) (by kernel_rfl) (by kernel_rfl) ?_
            repeat (quiet_step_in (fail))
            refine wpQuietIn_nil ?_
            rintro _ ⟨nq2, rfl⟩
            gi_wp2
            have hE := round_end HP.out (W' := w4.drewN nq2) (pw_below_drewN (hb5) _) (by omega)
            rw [← HKK.out] at hE
            exact ⟨hE.1, hE.2.1, by dsimp only; rw [show (pre ++ [x]).length = k + 1 by rw [HKK.out]; simp]; exact hE.2.2⟩
          · have h0' : ((readOf r.L y.f0).2 == 0) = false := by simpa using h0
            clear hv4 hC4
            generalize (readOf r.L y.f0).1.length = nr at *
            generalize (readOf r.L y.f0).2 = er at *
            refine wpIn_region_quiet_round (F := Fence.wide) l rfl (by kernel_rfl) (by kernel_rfl) (by kernel_rfl) ?_
            repeat (quiet_step_in (fail))
            refine wpQuietIn_nil ?_
            rintro _ ⟨nq2, rfl⟩
            gi_wp2
            have hE := round_end HP.out (W' := w4.drewN nq2) (pw_below_drewN (hb5) _) (by omega)
            rw [← HKK.out] at hE
            exact ⟨hE.1, hE.2.1, by dsimp only; rw [show (pre ++ [x]).length = k + 1 by rw [HKK.out]; simp]; exact hE.2.2⟩
        · have hE := round_end HP.out (W' := W.drewN nq) (pw_below_drewN (Below.refl _ _) _) (by omega)
          rw [← HKK.out] at hE
          exact ⟨hE.1, hE.2.1, by dsimp only; rw [show (pre ++ [x]).length = k + 1 by rw [HKK.out]; simp]; exact hE.2.2⟩
      · have hno := HNP.out (.inr (by
          refine Classical.byContradiction fun hc => hb2 ⟨?_, ?_, ?_⟩
          · exact Classical.byContradiction fun h => hc (.inl h)
          · exact Classical.byContradiction fun h => hc (.inr (.inl h))
          · exact Classical.byContradiction fun h => hc (.inr (.inr h))))
        have HNO := Lib.hid hno
        clear hno
        by_cases g1 : (at_ r.L x.2).f1 = y.f1.f0
        · have g1' : ((at_ r.L x.2).f1 == y.f1.f0) = true := by rw [g1]; simp
          by_cases g2 : sizeN (at_ r.L x.2) = y.f1.f1
          · have g2' : (sizeN (at_ r.L x.2) == y.f1.f1) = true := by rw [g2]; simp
            have g3 : kidsN (at_ r.L x.2) ≠ y.f1.f2 := fun h => hb2 ⟨g1, g2, h⟩
            have g3' : (kidsN (at_ r.L x.2) == y.f1.f2) = false := by simpa using g3
            clear hb2
            gi_wp2
            refine wpIn_region_quiet_round (F := Fence.wide) l rfl (by kernel_rfl) (by kernel_rfl) (by kernel_rfl) ?_
            repeat (quiet_step_in (fail))
            refine wpQuietIn_nil ?_
            rintro _ ⟨nq, rfl⟩
            gi_wp2
            exact ⟨⟨(KeepsOthers.setCell (W.drewN nq) ⟨w.heap.size + 1 + 1, 0, none⟩ (.bool false)).size, fun i o _ hi ho => (KeepsOthers.setCell (W.drewN nq) ⟨w.heap.size + 1 + 1, 0, none⟩ (.bool false)).same i o hi ho⟩, HNO.out⟩
          · have g2' : (sizeN (at_ r.L x.2) == y.f1.f1) = false := by simpa using g2
            clear hb2
            gi_wp2
            refine wpIn_region_quiet_round (F := Fence.wide) l rfl (by kernel_rfl) (by kernel_rfl) (by kernel_rfl) ?_
            repeat (quiet_step_in (fail))
            refine wpQuietIn_nil ?_
            rintro _ ⟨nq, rfl⟩
            gi_wp2
            exact ⟨⟨(KeepsOthers.setCell (W.drewN nq) ⟨w.heap.size + 1 + 1, 0, none⟩ (.bool false)).size, fun i o _ hi ho => (KeepsOthers.setCell (W.drewN nq) ⟨w.heap.size + 1 + 1, 0, none⟩ (.bool false)).same i o hi ho⟩, HNO.out⟩
        · have g1' : ((at_ r.L x.2).f1 == y.f1.f0) = false := by simpa using g1
          clear hb2
          gi_wp2
          refine wpIn_region_quiet_round (F := Fence.wide) l rfl (by kernel_rfl) (by kernel_rfl) (by kernel_rfl) ?_
          repeat (quiet_step_in (fail))
          refine wpQuietIn_nil ?_
          rintro _ ⟨nq, rfl⟩
          gi_wp2
          exact ⟨⟨(KeepsOthers.setCell (W.drewN nq) ⟨w.heap.size + 1 + 1, 0, none⟩ (.bool false)).size, fun i o _ hi ho => (KeepsOthers.setCell (W.drewN nq) ⟨w.heap.size + 1 + 1, 0, none⟩ (.bool false)).same i o hi ho⟩, HNO.out⟩
    · have hq1 : (x.1.toList == y.f0.toList) = false := by simpa using fun e => hb1 (ba_toList_inj e)
      have hno := HNP.out (.inl hb1)
      have HNO := Lib.hid hno
      clear hno
      gi_wp2
      refine wpIn_region_quiet_round (F := Fence.wide) l rfl (by kernel_rfl) (by kernel_rfl) (by kernel_rfl) ?_
      repeat (quiet_step_in (fail))
      refine wpQuietIn_nil ?_
      rintro _ ⟨nq, rfl⟩
      gi_wp2
      exact ⟨⟨(KeepsOthers.setCell (W.drewN nq) ⟨w.heap.size + 1 + 1, 0, none⟩ (.bool false)).size, fun i o _ hi ho => (KeepsOthers.setCell (W.drewN nq) ⟨w.heap.size + 1 + 1, 0, none⟩ (.bool false)).same i o hi ho⟩, HNO.out⟩
  case done =>
    rintro D zs W hD rfl hP hK
    have c3 := hP.bx.cell
    have c4 := hP.br.cell
    have c5 := hP.bk.cell
    have hlX : (walkN d r.L 0 ByteArray.empty).length = X.length := by rw [HX.out]; simp [rowsN]
    have f4 := hP.br.frozen
    have hr := hP.br
    have hbl := hP.below
    rw [hlX] at c5
    gi_wp2
    have hK2 := (KeepsOthers.setCell W ⟨w.heap.size + 1 + 1, 0, none⟩ (.bool true)).same D _ hK rfl
    refine ⟨by simp, .inl ⟨_, _, rfl, run_takeDeferred hK2, ?_⟩⟩
    have hcl := ((hr.set (.bool true)).kept (grownBy_putObj' _ D (.deferred none)) (fun e => by cases e; omega)).cell
    refine ⟨.bool true, by simp [results, Tryz.results28, go_sem, hcl], rfl, ?_⟩
    exact (hbl.setCell (p := ⟨w.heap.size + 1 + 1, 0, none⟩) (by simp; omega) _).trans (belowK_b (w := w) (Nat.le_refl _) _ D _ _ (by omega) hK2 rfl rfl)
  case stop =>
    rintro D cd pre W _ h1 h2 _
    exact absurd h1 h2
end Go.Proofs.YtmjhflmkgmfjkaaGreatDoor
