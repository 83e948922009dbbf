/- A part of the proof: N8. -/
import Derived.Test.YtmjhflmkgmfjkaaGreatDoorNb
set_option linter.unusedVariables false
set_option linter.unusedSimpArgs false
namespace Go.Proofs.YtmjhflmkgmfjkaaGreatDoor
open Go.RowKit Go.Proofs.YtmjhflmkgmfjkaaGreatDoorW.PrintWords Go.Proofs.YtmjhflmkgmfjkaaGreatDoorW.PrintMore
open PTreeTwins (S58 S106 S35 z58 z106)
attribute [local instance] lawful_ba
set_option maxRecDepth 100000 in
set_option maxHeartbeats 2000000 in
theorem same_dirs (w : World) (b b2 m m2 : Nat) (s s2 : Int) (kv kv2 : List (ByteArray × Value)) (hn : NodeB w b true (.slice none 0 0) (.map (some m)) s) (hn2 : NodeB w b2 true (.slice none 0 0) (.map (some m2)) s2) (q : Bool)
    (h57 : ∀ W, Below w.heap.size w W → Calls Tryz.prog 57 #[.map (some m), .map (some m2), .func (.func 27) #[] #[]] W fun e w' => e = .returned (.bool q) ∧ Below W.heap.size W w') :
    Calls Tryz.prog 27 #[.pointer (some ⟨b, 0, none⟩), .pointer (some ⟨b2, 0, none⟩)] w fun e w' => e = .returned (.bool q) ∧ Below w.heap.size w w' := by
  have hC : ∀ W, kB.C W none ([] : List Int).length [] := fun W => (Kd.R_reads' (Kd.R_nil kB 5 W 0 (fun _ => True))).2.2
  have h56 : ∀ W, Calls Tryz.prog 56 #[.slice none 0 0, .slice none 0 0] W fun e w' => e = .returned (.bool true) ∧ ∃ n, w' = W.drewN n := fun W => by
    have := equal56 none 0 [] none 0 [] W (hC W) (Nat.le_refl _) (hC W) (Nat.le_refl _)
    simpa using this
  have h571 := fun n => h57 (w.drewN (1 + n)) (pw_below_drewN (Below.refl _ _) _)
  obtain ⟨c0, c1, c2, c3⟩ := hn.cells
  obtain ⟨d0, d1, d2, d3⟩ := hn2.cells
  have hlt := hn.lt
  have hlt2 := hn2.lt
  clear h57 hC
  go_enter Tryz.func27, Tryz.ntmps27
  go_wp2
  go_region_held3 (fun W => W.cell? ⟨b, 0, none⟩ = some (.bool true) ∧ W.cell? ⟨b, 1, none⟩ = some (.slice none 0 0) ∧ W.cell? ⟨b, 2, none⟩ = some (.map (some m)) ∧ W.cell? ⟨b2, 0, none⟩ = some (.bool true) ∧ W.cell? ⟨b2, 1, none⟩ = some (.slice none 0 0) ∧ W.cell? ⟨b2, 2, none⟩ = some (.map (some m2)))
    (first | go_keep | (exact ⟨(hb2.cell (p := ⟨b, 0, none⟩) hlt).trans c0, (hb2.cell (p := ⟨b, 1, none⟩) hlt).trans c1, (hb2.cell (p := ⟨b, 2, none⟩) hlt).trans c2, (hb2.cell (p := ⟨b2, 0, none⟩) hlt2).trans d0, (hb2.cell (p := ⟨b2, 1, none⟩) hlt2).trans d1, (hb2.cell (p := ⟨b2, 2, none⟩) hlt2).trans d2⟩))
    (first
      | (go_at_call 56; refine (h56 _).mono ?_; rintro e w1 ⟨rfl, nq, rfl⟩)
      | (go_at_call 57; refine (h571 nq).mono ?_; rintro e w2 ⟨rfl, hb2⟩))
  all_goals
    go_wp2
    go_ret
    exact ⟨rfl, ⟨hb2.os, hb2.tape, hb2.output, hb2.size, hb2.block⟩⟩
theorem same_calls (L M : List S58) (wayL wayM : Nat → List ByteArray) (hL : Good L wayL) (hM : Good M wayM) (d : Nat) : ∀ (i j : Nat) (w : World) (f g f2 g2 : Nat → Nat), Live L i → Live M j → (∀ k, Sub L wayL i k → (wayL k).length < (wayL i).length + d) →
    (∀ k, Sub L wayL i k → NodeAt w (f k) (g k) (at_ L k) f) → (∀ k, Sub M wayM j k → NodeAt w (f2 k) (g2 k) (at_ M k) f2) →
    Calls Tryz.prog 27 #[.pointer (some ⟨f i, 0, none⟩), .pointer (some ⟨f2 j, 0, none⟩)] w fun e w' => e = .returned (.bool (sameN d L i M j)) ∧ Below w.heap.size w w' := by
  induction d with
  | zero => intro i j w f g f2 g2 hi hj hd _ _; exact absurd (hd i (Sub.refl hi)) (by omega)
  | succ d ih =>
    intro i j w f g f2 g2 hi hj hd hN hN2
    have h1 := hN i (Sub.refl hi)
    have h2 := hN2 j (Sub.refl hj)
    by_cases hdir : (at_ L i).f1 = (at_ M j).f1
    · cases hx : (at_ L i).f1 with
      | false =>
        have hy : (at_ M j).f1 = false := by rw [← hdir, hx]
        have he : sameN (d + 1) L i M j = decide (strOfNums (at_ L i).f2 = strOfNums (at_ M j).f2) := by
          unfold sameN
          rw [decide_eq_true hdir, hL.file i hi hx, hM.file j hj hy]
          simp [named]
        rw [he]
        exact same_files w (f i) (f2 j) _ _ (h1.2 hx) (h2.2 hy)
      | true =>
        have hy : (at_ M j).f1 = true := by rw [← hdir, hx]
        obtain ⟨hn, kv, hm, hp⟩ := h1.1 hx
        obtain ⟨hn2, kv2, hm2, hp2⟩ := h2.1 hy
        have hnl := hL.names i hi
        have hnm := hM.names j hj
        have he : sameN (d + 1) L i M j = eqKids kv kv2 (sameQ d L (at_ L i).f3 M (at_ M j).f3) := by
          rw [eqKids_same d hp hp2 hnl hm2.nodup]
          conv => lhs; unfold sameN
          rw [decide_eq_true hdir, hL.dirb i hi hx, hM.dirb j hj hy]
          simp
        rw [he]
        refine same_dirs w _ _ _ _ _ _ kv kv2 hn hn2 _ (fun W hW => ?_)
        refine equalFunc_calls W _ _ kv kv2 (hm.of_block (hW.block _ hm.lt)) (hm2.of_block (hW.block _ hm2.lt)) _ (fun k v1 p2 hk1 hk2 W' hW' => ?_) (fun k v hk => ?_) (fun k v hk => ?_)
        · obtain ⟨e, he, hev⟩ := List.mem_map.1 (hp.mem_iff.1 hk1)
          simp only [entVal, Prod.mk.injEq] at hev
          obtain ⟨rfl, rfl⟩ := hev
          rw [aget_perm hp2 hm2.nodup, aget_ents] at hk2
          obtain ⟨b, hb, hb2⟩ := Option.map_eq_some_iff.1 hk2
          cases hb2
          obtain ⟨e', he', hee, rfl⟩ := whose_mem hb
          have hq : sameQ d L (at_ L i).f3 M (at_ M j).f3 e.f0 = sameN d L (eix e) M (eix e') := by
            unfold sameQ
            rw [whose_named hnl he, hb]
          rw [hq]
          obtain ⟨_, p1, p2⟩ := hL.kid i hi e he
          obtain ⟨_, q1, q2⟩ := hM.kid j hj e' he'
          have hs1 : ∀ x, Sub L wayL (eix e) x → Sub L wayL i x := fun x hx => Sub.trans (Sub.kid hL hi (Sub.refl hi) he) hx
          have hs2 : ∀ x, Sub M wayM (eix e') x → Sub M wayM j x := fun x hx => Sub.trans (Sub.kid hM hj (Sub.refl hj) he') hx
          have hWW : Below w.heap.size w W' := hW.trans (hW'.mono hW.size)
          exact ih (eix e) (eix e') W' f g f2 g2 p1 q1 (fun x hx => by have := hd x (hs1 x hx); rw [p2]; simp; omega) (fun x hx => (hN x (hs1 x hx)).below hWW) (fun x hx => (hN2 x (hs2 x hx)).below hWW)
        · obtain ⟨e, he, hev⟩ := List.mem_map.1 (hp.mem_iff.1 hk)
          simp only [entVal, Prod.mk.injEq] at hev
          exact ⟨_, hev.2.symm⟩
        · rw [aget_perm hp2 hm2.nodup, aget_ents] at hk
          obtain ⟨b, hb, hb2⟩ := Option.map_eq_some_iff.1 hk
          exact ⟨_, hb2.symm⟩
    · have he : sameN (d + 1) L i M j = false := by unfold sameN; rw [decide_eq_false hdir]; rfl
      rw [he]
      obtain ⟨_, _, _, hn⟩ := h1.head
      obtain ⟨_, _, _, hn2⟩ := h2.head
      exact same_apart w _ _ _ _ _ _ _ _ _ _ hn hn2 hdir
set_option maxRecDepth 100000 in
set_option maxHeartbeats 1000000 in
theorem treeSame_calls (w : World) (t u : Nat) (f g f2 g2 : Nat → Nat) (way way2 : Nat → List ByteArray) (r s : RS) (hI : ImplAt w t f g r) (hJ : ImplAt w u f2 g2 s) (hG : Good r.L way) (hG2 : Good s.L way2) (d : Nat) (hd : ∀ j, Live r.L j → (way j).length < d) :
    Calls Tryz.prog 13 #[.pointer (some ⟨t, 0, none⟩), .pointer (some ⟨u, 0, none⟩)] w fun e w' => e = .returned (.bool (sameN d r.L 0 s.L 0)) ∧ Below w.heap.size w w' := by
  obtain ⟨c0, c1, c2⟩ := hI.tree.cells
  obtain ⟨d0, d1, d2⟩ := hJ.tree.cells
  have hlt := World.block_lt_of_cell? w _ c0
  have hlt2 := World.block_lt_of_cell? w _ d0
  have hcc : Calls Tryz.prog 27 #[.pointer (some ⟨f 0, 0, none⟩), .pointer (some ⟨f2 0, 0, none⟩)] (w.drewN 1) fun e w' => e = .returned (.bool (sameN d r.L 0 s.L 0)) ∧ Below (w.drewN 1).heap.size (w.drewN 1) w' :=
    same_calls r.L s.L way way2 hG hG2 d 0 0 _ f g f2 g2 hG.root.1 hG2.root.1 (fun j hj => by have := hd j hj.1; omega) (fun j hj => (hI.node j hj.1).below (pw_below_drewN (Below.refl _ _) 1)) (fun j hj => (hJ.node j hj.1).below (pw_below_drewN (Below.refl _ _) 1))
  go_enter Tryz.func13, Tryz.ntmps13
  go_wp2
  go_region_held3 (fun W => W.cell? ⟨t, 0, none⟩ = some (.pointer (some ⟨f 0, 0, none⟩)) ∧ W.cell? ⟨u, 0, none⟩ = some (.pointer (some ⟨f2 0, 0, none⟩)))
    (first | go_keep | exact ⟨(hb1.cell (p := ⟨t, 0, none⟩) hlt).trans c0, (hb1.cell (p := ⟨u, 0, none⟩) hlt2).trans d0⟩)
    (first | (go_at_call 27; refine hcc.mono ?_; rintro e w1 ⟨rfl, hb1⟩))
  all_goals
    go_wp2
    go_ret
    exact ⟨rfl, ⟨hb1.os, hb1.tape, hb1.output, hb1.size, hb1.block⟩⟩
end Go.Proofs.YtmjhflmkgmfjkaaGreatDoor
