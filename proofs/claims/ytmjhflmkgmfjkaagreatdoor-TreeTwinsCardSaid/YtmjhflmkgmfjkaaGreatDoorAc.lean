/- A part of the proof: H. -/
import Derived.Test.YtmjhflmkgmfjkaaGreatDoorAb
import Derived.Test.YtmjhflmkgmfjkaaGreatDoorAa
set_option linter.unusedVariables false
set_option linter.unusedSimpArgs false
namespace Go.Proofs.YtmjhflmkgmfjkaaGreatDoor
open Go.RowKit Go.Proofs.YtmjhflmkgmfjkaaGreatDoorW.PrintWords Go.Proofs.YtmjhflmkgmfjkaaGreatDoorW.PrintMore
open PTreeTwins (S58 S106 S35 z58 z106)
theorem setF2_live (L : List S58) (a : Nat) (d : List Int) (ha : Live L a) (i : Nat) : Live (setF2 L a d) i ↔ Live L i := by
  unfold Live
  rw [at_setF2 L a d (live_lt ha)]
  by_cases h : i = a
  · subst h; simp
  · rw [if_neg h]
theorem setF2_f1 (L : List S58) (a : Nat) (d : List Int) (ha : Live L a) (i : Nat) : (at_ (setF2 L a d) i).f1 = (at_ L i).f1 ∧ (at_ (setF2 L a d) i).f3 = (at_ L i).f3 := by
  rw [at_setF2 L a d (live_lt ha)]
  by_cases h : i = a
  · subst h; simp
  · rw [if_neg h]; simp
theorem own_setF2 (t : Nat) (f g : Nat → Nat) (L : List S58) (a : Nat) (d : List Int) (ha : Live L a) (k : Nat) : Own t f g (setF2 L a d) k ↔ Own t f g L k := by
  unfold Own
  simp only [setF2_live L a d ha, (setF2_f1 L a d ha _).1]
theorem allB_mono (a b : Int) (h0 : 0 ≤ a) (h : a ≤ b) : allB a ≤ allB b := by
  have h1 : blk a ≤ blk b := by unfold blk; omega
  have h2 := innr_mono (blk a) (blk b) (by unfold blk; omega) h1
  unfold allB; omega
/-- The tree behind a change of one file's bytes. -/
theorem did_data {w w2 : World} {t : Nat} {f g : Nat → Nat} {r : RS} {a : Nat} {d : List Int} {bl : Int} (hI : ImplAt w t f g r) (ha : Live r.L a) (had : (at_ r.L a).f1 = false)
    (ht : TreeB w2 t (f 0) bl r.ino) (hN : ∃ v, NodeB w2 (f a) false v (.map none) 0 ∧ kB.R 5 w2 0 (fun _ => True) v d) (hk : Keeps (fun j => j = t ∨ j = f a) w w2) : Did w t f g r { r with L := setF2 r.L a d, bl := bl } w2 := by
  have hS : ∀ k, (k = t ∨ k = f a) → Own t f g r.L k := fun k hk => by
    rcases hk with rfl | rfl
    · exact .inl rfl
    · exact .inr ⟨a, ha, .inl rfl⟩
  refine ⟨f, g, impl_upd (fun i => i = a) (fun j => j = t ∨ j = f a) hI hk (fun k hs _ => hI.own_nobytes (hS k hs)) ht ?_ ?_ ?_ ?_, hk.mono hS, fun k hk => .inl ((own_setF2 t f g r.L a d ha k).1 hk)⟩
  · intro i hl hT
    have hl' := (setF2_live r.L a d ha i).1 hl
    refine ⟨hl', by simp only; rw [at_setF2 r.L a d (live_lt ha), if_neg hT], rfl, rfl, ?_, ?_, fun _ _ _ => rfl⟩
    · rintro (e | e)
      · exact hI.f_ne_t hl' e.symm
      · exact hT (hI.inj i a hl' ha e)
    · intro hd
      rintro (e | e)
      · exact hI.g_ne_t hl' hd e.symm
      · exact hI.f_ne_g ha hl' hd e.symm
  · rintro i hl rfl
    simp only
    rw [at_setF2 r.L i d (live_lt ha), if_pos rfl]
    exact ⟨(fun e => by simp only at e; rw [had] at e; cases e), fun _ => hN⟩
  · intro i j hi hj e
    exact hI.inj i j ((setF2_live r.L a d ha i).1 hi) ((setF2_live r.L a d ha j).1 hj) e
  · intro i j hi hj hdi hdj e
    exact hI.injm i j ((setF2_live r.L a d ha i).1 hi) ((setF2_live r.L a d ha j).1 hj) (by rw [← (setF2_f1 r.L a d ha i).1]; exact hdi) (by rw [← (setF2_f1 r.L a d ha j).1]; exact hdj) e
def iAppend (r : RS) (n : Option Nat) (b : List Int) : RS × Int := match n with
  | none => (r, 8)
  | some a => if (at_ r.L a).f1 = true then (r, 10) else rMore r a b
theorem acts_append {w : World} {t : Nat} {f g : Nat → Nat} {r : RS} {N a : Nat} {more : Int} (hI : ImplAt w t f g r) (hL : Lim r N) (ha : Live r.L a) (had : (at_ r.L a).f1 = false) (A : Option Addr) (n c : Nat) (x : List Int) (hN : NodeB w (f a) false (.slice A n c) (.map none) 0) (hx : kB.C w A n x) (Ab : Option Addr) (nb cb : Nat) (b : List Int) (hb : kB.C w Ab nb b) (hn : n ≤ 8458240) (hnb : nb ≤ 8458240)
    (bn bb bt bm : Nat) (h1 : BoxB w bn (.pointer (some ⟨f a, 0, none⟩)) 52) (h2 : BoxB w bb (.slice Ab nb cb) 33) (h3 : BoxB w bt (.pointer (some ⟨t, 0, none⟩)) 25) (h4 : BoxB w bm (.int .i64 more) 3) (hm0 : 0 ≤ more) (hm1 : more ≤ r.bl) :
    Acts 72 #[.pointer (some ⟨bn, 0, none⟩), .pointer (some ⟨bb, 0, none⟩), .pointer (some ⟨bt, 0, none⟩), .pointer (some ⟨bm, 0, none⟩)] w (Did w t f g r { r with L := setF2 r.L a (x ++ b), bl := r.bl - more }) := by
  refine ⟨enters72, fun k => ?_⟩
  have hk : Below w.heap.size w (w.drewN k) := pw_below_drewN (Below.refl _ _) k
  have h0 := hL.bl1
  have h0' := hL.small
  refine (appendAct_calls (w.drewN k) t (f 0) (f a) r.bl r.ino more A n c x Ab nb cb b (hI.below hk).tree (hN.below hk) (Kd.C_below hx hk) (Kd.C_below hb hk) hn hnb bn bb bt bm (h1.below hk) (h2.below hk) (h3.below hk) (h4.below hk) hm0 hm1 (by omega)).mono ?_
  rintro e w2 ⟨he, g1, g2, g3⟩
  exact ⟨he, did_data hI ha had g1 g2 ⟨g3.os, g3.tape, g3.output, g3.size, g3.block⟩⟩
set_option maxHeartbeats 2000000 in
set_option maxRecDepth 100000 in
theorem append_calls (w : World) (t : Nat) (f g : Nat → Nat) (r : RS) (N : Nat) (hI : ImplAt w t f g r) (hL : Lim r N) (n : Option Nat) (hn : ∀ a, n = some a → Live r.L a) (Ab : Option Addr) (nb cb : Nat) (b : List Int) (hb : kB.C w Ab nb b) :
    Calls Tryz.prog 38 #[.pointer (some ⟨t, 0, none⟩), ptrO f n, .slice Ab nb cb] w (PlanPost w t f g r (iAppend r n b)) := by
  obtain ⟨c0, c1, c2⟩ := hI.tree.cells
  have hlt : t < w.heap.size := World.block_lt_of_cell? w _ c0
  have hbl : b.length = nb := hb.1
  have hnm : nb ≤ 9223372036854775807 := Kd.C_max hb
  cases n with
  | none =>
    simp only [ptrO, Option.map_none]
    go_enter Tryz.func38, Tryz.ntmps38
    go_wp2_with (go_at_call 31; refine (isFile_nil _).mono ?_; rintro e w' ⟨rfl, rfl⟩)
    go_ret2
    exact PlanPost.bad rfl (by decide) ((((Below.refl _ w).alloc (Nat.le_refl _) _).alloc (by simp) _).alloc (by simp; omega) _)
  | some a =>
    have ha := hn a rfl
    simp only [ptrO, Option.map_some]
    have hB3 : Below w.heap.size w (((w.alloc (.cells #[.pointer (some ⟨t, 0, none⟩)] 25)).alloc (.cells #[.pointer (some ⟨f a, 0, none⟩)] 52)).alloc (.cells #[.slice Ab nb cb] 33)) :=
      (((Below.refl _ w).alloc (Nat.le_refl _) _).alloc (by simp) _).alloc (by simp; omega) _
    have hnode := hI.node a ha
    cases had : (at_ r.L a).f1 with
    | true =>
      have hd := hnode.1 had
      have Had := Lib.hid had
      clear had
      go_enter Tryz.func38, Tryz.ntmps38
      go_wp2_with (go_at_call 31; refine (isFile_node _ true _ _ _ _ (hd.node.below hB3)).mono ?_; rintro e w' ⟨rfl, rfl⟩)
      go_ret2
      exact PlanPost.bad (by simp [iAppend, Had.out]) (by decide) hB3
    | false =>
      obtain ⟨v, hnb, hv⟩ := hnode.2 had
      obtain ⟨A, c, rfl, hc, hC⟩ := Kd.R_reads hv
      obtain ⟨n0, n1, n2, n3⟩ := hnb.cells
      have hnlt := hnb.lt
      have hnl1 : f a < w.heap.size + 1 := by omega
      have hnl2 : f a < w.heap.size + 1 + 1 := by omega
      have hnl3 : ¬ f a = w.heap.size := by omega
      have hnl4 : ¬ f a = w.heap.size + 1 := by omega
      have hnl5 : ¬ f a = w.heap.size + 1 + 1 := by omega
      have hdl := hL.data a
      have hres : iAppend r (some a) b = rMore r a b := by simp [iAppend, had]
      rw [hres]
      have hrm : rMore r a b = if (nb : Int) > 8458240 - (at_ r.L a).f2.length then (r, 5) else
          if allB ((at_ r.L a).f2.length + nb) - allB (at_ r.L a).f2.length > r.bl then (r, 7) else
          ({ r with L := setF2 r.L a ((at_ r.L a).f2 ++ b), bl := r.bl - (allB ((at_ r.L a).f2.length + nb) - allB (at_ r.L a).f2.length) }, 0) := by unfold rMore; rw [hbl]
      obtain ⟨res, hrs⟩ : ∃ res, res = rMore r a b := ⟨_, rfl⟩
      rw [← hrs] at hrm ⊢
      clear hrs
      have Had := Lib.hid had
      have HV := Lib.hid hv
      have HC := Lib.hid hC
      have Hbl := Lib.hid hbl
      clear had hv hC hbl hres
      obtain ⟨x, hx⟩ : ∃ x, x = (at_ r.L a).f2 := ⟨_, rfl⟩
      rw [← hx] at hrm hdl n1 hnb hc HC HV
      clear hx
      have Hrm := Lib.hid hrm
      clear hrm
      have HB : Hid (kB.C w Ab nb b) := Lib.hid hb
      clear hb
      by_cases hlong : (nb : Int) > 8458240 - (x.length : Int)
      · have hres := Hrm.out
        rw [if_pos hlong] at hres
        have Hres := Lib.hid hres
        clear hres
        have hd1 : decide ((8458240 : Int) - (x.length : Int) < (nb : Int)) = true := decide_eq_true hlong
        clear hlong
        go_enter Tryz.func38, Tryz.ntmps38
        go_wp2_with (go_at_call 31; refine (isFile_node _ false _ _ _ _ (hnb.below hB3)).mono ?_; rintro e w' ⟨rfl, rfl⟩)
        go_quiet ((go_at_call 69; exact Calls.quiet_of_same ((most_calls _).mono (fun _ _ ⟨h1, h2⟩ => ⟨h1, h2.symm⟩))))
        go_wp2
        go_ret2
        exact PlanPost.bad (by rw [Hres.out]) (by decide) (pw_below_drewN hB3 _)
      · have hres := Hrm.out
        rw [if_neg hlong] at hres
        have Hres := Lib.hid hres
        clear hres
        have hd1 : decide ((8458240 : Int) - (x.length : Int) < (nb : Int)) = false := decide_eq_false hlong
        have hle : (x.length : Int) + (nb : Int) ≤ 8458240 := by omega
        clear hlong
        have hall := allB_bd ((x.length : Int) + (nb : Int)) (by omega) hle
        have hall2 := allB_bd (x.length : Int) (by omega) (by omega)
        have w1 : IntKind.i64.wrap ((x.length : Int) + (nb : Int)) = (x.length : Int) + (nb : Int) := IntWalk.i64_in _ (by omega)
        have w2 : IntKind.i64.wrap (allB ((x.length : Int) + (nb : Int)) - allB (x.length : Int)) = allB ((x.length : Int) + (nb : Int)) - allB (x.length : Int) := IntWalk.i64_in _ (by omega)
        have hmono : allB (x.length : Int) ≤ allB ((x.length : Int) + (nb : Int)) := allB_mono _ _ (by omega) (by omega)
        obtain ⟨more, hmore⟩ : ∃ m, m = allB ((x.length : Int) + (nb : Int)) - allB (x.length : Int) := ⟨_, rfl⟩
        have hm0 : 0 ≤ more := by omega
        have Hres' : Hid (res = if more > r.bl then (r, 7) else ({ r with L := setF2 r.L a (x ++ b), bl := r.bl - more }, 0)) := by rw [hmore]; exact Hres
        have w3 : IntKind.i64.wrap (allB ((x.length : Int) + (nb : Int)) - allB (x.length : Int)) = more := by rw [w2, hmore]
        clear w2
        have ht1 : t < w.heap.size + 1 := by omega
        have ht2 : t < w.heap.size + 1 + 1 := by omega
        have ht3 : t < w.heap.size + 1 + 1 + 1 := by omega
        have ht4 : ¬ t = w.heap.size := by omega
        have ht5 : ¬ t = w.heap.size + 1 := by omega
        have ht6 : ¬ t = w.heap.size + 1 + 1 := by omega
        have ht7 : ¬ t = w.heap.size + 1 + 1 + 1 := by omega
        clear Hres
        have hbl0 := hL.bl0
        have hbl1 := hL.bl1
        have hsm := hL.small
        have hNB : ∀ W, Below w.heap.size w W → NodeB W (f a) false (.slice A x.length c) (.map none) 0 := fun W hW => hnb.below hW
        have b1 : BoxB (((w.alloc (.cells #[.pointer (some ⟨t, 0, none⟩)] 25)).alloc (.cells #[.pointer (some ⟨f a, 0, none⟩)] 52)).alloc (.cells #[.slice Ab nb cb] 33)) (w.heap.size + 1) (.pointer (some ⟨f a, 0, none⟩)) 52 := (Below.heap_alloc _ _ _ (by simp)).trans (by have := heap_alloc_new (w.alloc (.cells #[.pointer (some ⟨t, 0, none⟩)] 25)) (.cells #[.pointer (some ⟨f a, 0, none⟩)] 52); rw [World.size_alloc] at this; exact this)
        have b2 : BoxB (((w.alloc (.cells #[.pointer (some ⟨t, 0, none⟩)] 25)).alloc (.cells #[.pointer (some ⟨f a, 0, none⟩)] 52)).alloc (.cells #[.slice Ab nb cb] 33)) (w.heap.size + 1 + 1) (.slice Ab nb cb) 33 := by have := heap_alloc_new ((w.alloc (.cells #[.pointer (some ⟨t, 0, none⟩)] 25)).alloc (.cells #[.pointer (some ⟨f a, 0, none⟩)] 52)) (.cells #[.slice Ab nb cb] 33); rw [World.size_alloc, World.size_alloc] at this; exact this
        have b0 : BoxB (((w.alloc (.cells #[.pointer (some ⟨t, 0, none⟩)] 25)).alloc (.cells #[.pointer (some ⟨f a, 0, none⟩)] 52)).alloc (.cells #[.slice Ab nb cb] 33)) w.heap.size (.pointer (some ⟨t, 0, none⟩)) 25 := (Below.heap_alloc _ _ _ (by simp; omega)).trans ((Below.heap_alloc _ _ _ (by simp)).trans (heap_alloc_new w _))
        have hW4 : ∀ n n', Below (w.heap.size + 1 + 1 + 1) (((w.alloc (.cells #[.pointer (some ⟨t, 0, none⟩)] 25)).alloc (.cells #[.pointer (some ⟨f a, 0, none⟩)] 52)).alloc (.cells #[.slice Ab nb cb] 33)) ((((((w.alloc (.cells #[.pointer (some ⟨t, 0, none⟩)] 25)).alloc (.cells #[.pointer (some ⟨f a, 0, none⟩)] 52)).alloc (.cells #[.slice Ab nb cb] 33)).drewN n).alloc (.cells #[.int .i64 more] 3)).drewN n') := fun n n' => pw_below_drewN ((pw_below_drewN (Below.refl _ _) n).alloc (by simp) _) n'
        have hb4 : ∀ n n', BoxB ((((((w.alloc (.cells #[.pointer (some ⟨t, 0, none⟩)] 25)).alloc (.cells #[.pointer (some ⟨f a, 0, none⟩)] 52)).alloc (.cells #[.slice Ab nb cb] 33)).drewN n).alloc (.cells #[.int .i64 more] 3)).drewN n') (w.heap.size + 1 + 1 + 1) (.int .i64 more) 3 := fun n n' => by
          have := heap_alloc_new ((((w.alloc (.cells #[.pointer (some ⟨t, 0, none⟩)] 25)).alloc (.cells #[.pointer (some ⟨f a, 0, none⟩)] 52)).alloc (.cells #[.slice Ab nb cb] 33)).drewN n) (.cells #[.int .i64 more] 3)
          have hz : ((((w.alloc (.cells #[.pointer (some ⟨t, 0, none⟩)] 25)).alloc (.cells #[.pointer (some ⟨f a, 0, none⟩)] 52)).alloc (.cells #[.slice Ab nb cb] 33)).drewN n).heap.size = w.heap.size + 1 + 1 + 1 := by simp
          rw [hz] at this
          exact this
        have hS : ∀ W, Below (w.heap.size + 1 + 1 + 1) (((w.alloc (.cells #[.pointer (some ⟨t, 0, none⟩)] 25)).alloc (.cells #[.pointer (some ⟨f a, 0, none⟩)] 52)).alloc (.cells #[.slice Ab nb cb] 33)) W → W.cell? ⟨w.heap.size + 1, 0, none⟩ = some (.pointer (some ⟨f a, 0, none⟩)) ∧ W.cell? ⟨w.heap.size + 1 + 1, 0, none⟩ = some (.slice Ab nb cb) ∧ W.cell? ⟨f a, 1, none⟩ = some (.slice A x.length c) := fun W hW =>
          ⟨(hW.cell (p := ⟨w.heap.size + 1, 0, none⟩) (by simp)).trans b1.cell, (hW.cell (p := ⟨w.heap.size + 1 + 1, 0, none⟩) (by simp)).trans b2.cell, ((hW.cell (p := ⟨f a, 1, none⟩) (by simp; omega)).trans (hB3.cell (p := ⟨f a, 1, none⟩) hnlt)).trans n1⟩
        have hcell : ∀ W, Below w.heap.size w W → W.cell? ⟨f a, 1, none⟩ = some (.slice A x.length c) := fun W hW => (hnb.below hW).cells.2.1
        have hWk : ∀ W : World, Below (w.heap.size + 1 + 1 + 1) (((w.alloc (.cells #[.pointer (some ⟨t, 0, none⟩)] 25)).alloc (.cells #[.pointer (some ⟨f a, 0, none⟩)] 52)).alloc (.cells #[.slice Ab nb cb] 33)) W → Below w.heap.size w W := fun W hW => hB3.trans (hW.mono (by omega))
        by_cases hmm : more > r.bl
        · have hd2 : decide (r.bl < more) = true := decide_eq_true hmm
          have Hr7 : Hid (res = (r, 7)) := Lib.hid (by have := Hres'.out; rw [if_pos hmm] at this; exact this)
          clear hmm Hres' hmore
          go_enter Tryz.func38, Tryz.ntmps38
          go_wp2_with (go_at_call 31; refine (isFile_node _ false _ _ _ _ (hnb.below hB3)).mono ?_; rintro e w' ⟨rfl, rfl⟩)
          go_quiet ((go_at_call 69; exact Calls.quiet_of_same ((most_calls _).mono (fun _ _ ⟨h1, h2⟩ => ⟨h1, h2.symm⟩))))
          go_wp2_with fail
          go_region_held3 (fun W => W.cell? ⟨w.heap.size + 1, 0, none⟩ = some (.pointer (some ⟨f a, 0, none⟩)) ∧ W.cell? ⟨w.heap.size + 1 + 1, 0, none⟩ = some (.slice Ab nb cb) ∧ W.cell? ⟨f a, 1, none⟩ = some (.slice A x.length c))
            (exact hS _ (by repeat (first | exact Below.refl _ _ | refine Below.drew ?_ | refine pw_below_drewN ?_ _ | refine Below.setCell ?_ (by simp <;> omega) _ | refine Below.alloc ?_ (by simp <;> omega) _)))
            (first
              | (go_at_call 70; refine (all_calls _ _ (by omega) hle).mono ?_; rintro e w' ⟨rfl, rfl⟩)
              | (go_at_call 71; refine (nblocks_file _ A x.length c _ _ _ (by exact hNB _ (hB3.trans (by repeat (first | exact Below.refl _ _ | refine Below.drew ?_ | refine pw_below_drewN ?_ _ | refine Below.setCell ?_ (by simp <;> omega) _ | refine Below.alloc ?_ (by simp <;> omega) _)))) (by omega)).mono ?_; rintro e w' ⟨rfl, rfl⟩))
          all_goals
            go_wp2
            go_quiet (fail)
            go_wp2
            go_ret2
            exact PlanPost.bad (by rw [Hr7.out]) (by decide) (hWk _ (by repeat (first | exact Below.refl _ _ | refine Below.drew ?_ | refine pw_below_drewN ?_ _ | refine Below.setCell ?_ (by simp <;> omega) _ | refine Below.alloc ?_ (by simp <;> omega) _)))
        · have hd2 : decide (r.bl < more) = false := decide_eq_false hmm
          have Hr0 : Hid (res = ({ r with L := setF2 r.L a (x ++ b), bl := r.bl - more }, 0)) := Lib.hid (by have := Hres'.out; rw [if_neg hmm] at this; exact this)
          have hmm' : more ≤ r.bl := by omega
          clear hmm Hres' hmore
          go_enter Tryz.func38, Tryz.ntmps38
          go_wp2_with (go_at_call 31; refine (isFile_node _ false _ _ _ _ (hnb.below hB3)).mono ?_; rintro e w' ⟨rfl, rfl⟩)
          go_quiet ((go_at_call 69; exact Calls.quiet_of_same ((most_calls _).mono (fun _ _ ⟨h1, h2⟩ => ⟨h1, h2.symm⟩))))
          go_wp2_with fail
          go_region_held3 (fun W => W.cell? ⟨w.heap.size + 1, 0, none⟩ = some (.pointer (some ⟨f a, 0, none⟩)) ∧ W.cell? ⟨w.heap.size + 1 + 1, 0, none⟩ = some (.slice Ab nb cb) ∧ W.cell? ⟨f a, 1, none⟩ = some (.slice A x.length c))
            (exact hS _ (by repeat (first | exact Below.refl _ _ | refine Below.drew ?_ | refine pw_below_drewN ?_ _ | refine Below.setCell ?_ (by simp <;> omega) _ | refine Below.alloc ?_ (by simp <;> omega) _)))
            (first
              | (go_at_call 70; refine (all_calls _ _ (by omega) hle).mono ?_; rintro e w' ⟨rfl, rfl⟩)
              | (go_at_call 71; refine (nblocks_file _ A x.length c _ _ _ (by exact hNB _ (hB3.trans (by repeat (first | exact Below.refl _ _ | refine Below.drew ?_ | refine pw_below_drewN ?_ _ | refine Below.setCell ?_ (by simp <;> omega) _ | refine Below.alloc ?_ (by simp <;> omega) _)))) (by omega)).mono ?_; rintro e w' ⟨rfl, rfl⟩))
          all_goals
            go_wp2
            go_quiet (fail)
            go_wp2
            go_ret2
            refine ⟨_, by rw [Hr0.out]; rfl, hWk _ (by repeat (first | exact Below.refl _ _ | refine Below.drew ?_ | refine pw_below_drewN ?_ _ | refine Below.setCell ?_ (by simp <;> omega) _ | refine Below.alloc ?_ (by simp <;> omega) _)), fun _ => ⟨_, _, rfl, ?_⟩⟩
            rw [Hr0.out]
            exact acts_append (hI.below (hWk _ (hW4 _ _))) hL ha Had.out A x.length c x ((hNB _ (hWk _ (hW4 _ _)))) (Kd.C_below HC.out (hWk _ (hW4 _ _))) Ab nb cb b (Kd.C_below HB.out (hWk _ (hW4 _ _))) (by omega) (by omega) (w.heap.size + 1) (w.heap.size + 1 + 1) w.heap.size (w.heap.size + 1 + 1 + 1) ((b1.below (by simpa using hW4 _ _))) (b2.below (by simpa using hW4 _ _)) (b0.below (by simpa using hW4 _ _)) (hb4 _ _) hm0 hmm'
end Go.Proofs.YtmjhflmkgmfjkaaGreatDoor
