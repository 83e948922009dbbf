/- A part of the proof: Y9. -/
import Derived.Test.YtmjhflmkgmfjkaaGreatDoorYb
import Derived.StillTailTactics
import Derived.Deep.RegionLaw
set_option linter.unusedVariables false
set_option linter.unusedSimpArgs false
namespace Go.Proofs.YtmjhflmkgmfjkaaGreatDoor
open Go.RowKit Go.Proofs.YtmjhflmkgmfjkaaGreatDoorW.PrintWords Go.Proofs.YtmjhflmkgmfjkaaGreatDoorW.PrintMore
open PTreeTwins (S58 S106 S35 z58 z106 k58 k106)
theorem freshL_found {L : List S58} {i : Nat} (hi : i < L.length) (h0 : ∀ j, j < i → (at_ L j).f0 = true) (h : (at_ L i).f0 = false) : freshL L = i := by
  unfold freshL
  have : L.findIdx? (fun x => !x.f0) = some i := by
    rw [List.findIdx?_eq_some_iff_getElem]
    refine ⟨hi, ?_, fun j hj => ?_⟩
    · have : at_ L i = L[i] := by unfold at_; simp [List.getD_eq_getElem?_getD, hi]
      rw [this] at h; simp [h]
    · have hj' : j < L.length := by omega
      have : at_ L j = L[j] := by unfold at_; simp [List.getD_eq_getElem?_getD, hj']
      have h1 := h0 j hj
      rw [this] at h1; simp [h1]
  rw [this]; rfl
theorem freshL_all {L : List S58} (h0 : ∀ j, j < L.length → (at_ L j).f0 = true) : freshL L = L.length := by
  unfold freshL
  have : L.findIdx? (fun x => !x.f0) = none := by
    rw [List.findIdx?_eq_none_iff]
    intro x hx
    obtain ⟨j, hj, rfl⟩ := List.getElem_of_mem hx
    have : at_ L j = L[j] := by unfold at_; simp [List.getD_eq_getElem?_getD, hj]
    have h1 := h0 j hj
    rw [this] at h1; simp [h1]
  rw [this]; rfl
/-- the document's Tree, its rows in blocks that are ok -/
structure RefP (ok : Nat → Prop) (w : World) (q b : Nat) (r : RS) : Prop where
  row : ∃ cap, RBox w q (some ⟨b, 0, none⟩) r.L.length cap r.bl r.ino ∧ k58.R 58 w 0 ok (.slice (some ⟨b, 0, none⟩) r.L.length cap) r.L
theorem RefP.toAt {ok : Nat → Prop} {w : World} {q b : Nat} {r : RS} (h : RefP ok w q b r) : RefAt w q b r := by
  obtain ⟨cap, h1, h2⟩ := h.row
  exact ⟨cap, h1, Kd.R_mono h2 (fun _ _ => trivial)⟩
theorem RefAt.toP {ok : Nat → Prop} {w : World} {q b : Nat} {r : RS} (h : RefAt w q b r) (hok : ∀ k, k < w.heap.size → ok k) : RefP ok w q b r := by
  obtain ⟨cap, h1, h2⟩ := h.row
  exact ⟨cap, h1, Kd.R_mono (Kd.R_bound h2) (fun k hk => hok k hk.2.2.1)⟩
theorem RefP.below {ok : Nat → Prop} {w w' : World} {q b : Nat} {r : RS} (h : RefP ok w q b r) (hb : Below w.heap.size w w') : RefP ok w' q b r := by
  obtain ⟨cap, h1, h2⟩ := h.row
  exact ⟨cap, h1.below hb, Kd.R_below h2 hb⟩
/-- a store into a block that is none of its rows -/
theorem RefP.far {ok : Nat → Prop} {w : World} {q b : Nat} {r : RS} (h : RefP ok w q b r) {p : Addr} (h1 : ¬ ok p.block) (h2 : p.block ≠ q) (v : Value) : RefP ok (w.setCell p v) q b r := by
  obtain ⟨cap, g1, g2⟩ := h.row
  exact ⟨cap, (Below.heap_setCell w p v q (fun e => h2 e.symm)).trans g1, Kd.R_far g2 (fun k hk e => h1 (e ▸ hk)) v⟩
/-- t.L[i] = Thing{..}, without rows -/
theorem RefP.setT {ok : Nat → Prop} {w : World} {q b : Nat} {r : RS} (h : RefP ok w q b r) (i : Nat) (hi : i < r.L.length) (f0 f1 : Bool) :
    RefP ok (w.setCells b (i * 4) [.bool f0, .bool f1, .slice none 0 0, .slice none 0 0]) q b { r with L := r.L.set i ⟨f0, f1, [], []⟩ } ∧ Keeps (fun k => k = b) w (w.setCells b (i * 4) [.bool f0, .bool f1, .slice none 0 0, .slice none 0 0]) := by
  obtain ⟨cap, h1, h2⟩ := h.row
  obtain ⟨c, g1, g2, g3, g4⟩ := Kd.R_elem h2 z58 (i : Int) (by omega) (by omega)
  rw [Int.toNat_natCast] at g2 g3
  obtain ⟨o2, o3, rfl, _, _⟩ := PTreeTwins.k58_openM g2
  have hM : k58.M w 0 (fun k => ok k ∧ k ≠ b) (⟨f0, f1, [], []⟩ : S58) ([.bool (at_ r.L i).f0, .bool (at_ r.L i).f1, o2, o3].take 0 ++ [.bool f0, .bool f1, .slice none 0 0, .slice none 0 0] ++ [.bool (at_ r.L i).f0, .bool (at_ r.L i).f1, o2, o3].drop (0 + [Value.bool f0, .bool f1, .slice none 0 0, .slice none 0 0].length)) := PTreeTwins.k58_mkM w 0 _ (⟨f0, f1, [], []⟩ : S58) (Kd.R_nil _ _ _ _ _) (Kd.R_nil _ _ _ _ _)
  have := Kd.R_seg h2 (i : Int) (by omega) (by omega) (c := [.bool (at_ r.L i).f0, .bool (at_ r.L i).f1, o2, o3]) (seg := [.bool f0, .bool f1, .slice none 0 0, .slice none 0 0]) (j := 0) g1 (by rw [Int.toNat_natCast]; exact g3) (show 0 + 4 ≤ k58.sz by decide) hM (fun k hk => hk)
  rw [Int.toNat_natCast] at this
  have hk : Keeps (fun k => k = b) w (w.setCells b (i * 4) [.bool f0, .bool f1, .slice none 0 0, .slice none 0 0]) := (Keeps.of_grown this.2).mono (fun k e => by injection e with e; exact e.symm)
  refine ⟨⟨cap, ?_, ?_⟩, hk⟩
  · rw [List.length_set]
    exact h1.keeps hk (h.toAt.ne (fun e0 => by rw [e0] at hi; simp at hi))
  · rw [List.length_set]
    exact this.1
/-- t.L[i] = x -/
theorem RefAt.setT {w : World} {q b : Nat} {r : RS} (h : RefAt w q b r) (i : Nat) (hi : i < r.L.length) (x : S58) {v2 v3 : Value} (hx2 : kB.R 5 w 0 (fun k => True ∧ k ≠ b) v2 x.f2) (hx3 : k106.R 106 w 0 (fun k => True ∧ k ≠ b) v3 x.f3) :
    RefAt (w.setCells b (i * 4) [.bool x.f0, .bool x.f1, v2, v3]) q b { r with L := r.L.set i x } ∧ Keeps (fun k => k = b) w (w.setCells b (i * 4) [.bool x.f0, .bool x.f1, v2, v3]) := by
  obtain ⟨cap, h1, h2⟩ := h.row
  obtain ⟨c, g1, g2, g3, g4⟩ := Kd.R_elem h2 z58 (i : Int) (by omega) (by omega)
  rw [Int.toNat_natCast] at g2 g3
  obtain ⟨o2, o3, rfl, _, _⟩ := PTreeTwins.k58_openM g2
  have hM : k58.M w 0 (fun k => True ∧ k ≠ b) x ([.bool (at_ r.L i).f0, .bool (at_ r.L i).f1, o2, o3].take 0 ++ [.bool x.f0, .bool x.f1, v2, v3] ++ [.bool (at_ r.L i).f0, .bool (at_ r.L i).f1, o2, o3].drop (0 + [Value.bool x.f0, .bool x.f1, v2, v3].length)) := PTreeTwins.k58_mkM w 0 _ x hx2 hx3
  have := Kd.R_seg h2 (i : Int) (by omega) (by omega) (c := [.bool (at_ r.L i).f0, .bool (at_ r.L i).f1, o2, o3]) (seg := [.bool x.f0, .bool x.f1, v2, v3]) (j := 0) g1 (by rw [Int.toNat_natCast]; exact g3) (show 0 + 4 ≤ k58.sz by decide) hM (fun k hk => hk)
  rw [Int.toNat_natCast] at this
  have hk : Keeps (fun k => k = b) w (w.setCells b (i * 4) [.bool x.f0, .bool x.f1, v2, v3]) := (Keeps.of_grown this.2).mono (fun k e => by injection e with e; exact e.symm)
  refine ⟨⟨cap, ?_, ?_⟩, hk⟩
  · rw [List.length_set]
    exact h1.keeps hk (h.ne (fun e0 => by rw [e0] at hi; simp at hi))
  · rw [List.length_set]
    exact this.1
theorem info_58 : (Tryz.prog.info? 58).map (fun i => (i.zero, i.size, i.bytes)) = some (some (.agg #[.bool false, .bool false, .slice none 0 0, .slice none 0 0]), 4, 56) := by kernel_rfl
theorem R_readsM {α : Type} {d : Kd α} {e base : Nat} {w : World} {ok : Nat → Prop} {A : Option Addr} {n c : Nat} {xs : List α} (h : d.R e w base ok (.slice A n c) xs) : ReadsRow (d.M w base (fun k => ok k ∧ k < w.heap.size)) d.sz w A n xs := by
  have h1 := Kd.R_bound h
  obtain ⟨A', c', he, hl, hr⟩ := OwnRow.reads h1.2
  cases he
  exact hr.imp_ (Below.refl _ _) (fun _ _ hp => d.M_mono (fun k hk => ⟨hk.1.1, hk.1.2.2.1⟩) hp)
theorem R_emptyAt {α : Type} {w : World} {g e : Nat} {ok : Nat → Prop} (d : Kd α) (hok : ok g) (h : w.heap[g]? = some (.cells #[] e (0, 0))) : d.R e w 0 ok (.slice (some ⟨g, 0, none⟩) 0 0) [] :=
  ⟨fun k hk => by simp [Value.ownBlock] at hk; subst hk; exact hok, [], ⟨by simp, .inr ⟨g, 0, #[], rfl, Nat.zero_le _, h, Nat.le_refl _, Nat.zero_le _, by simp, by simp⟩⟩, Reps.none _ _⟩
theorem lit_reads {w W : World} {g : Nat} {dir : Bool} (h : w.heap[g]? = some (.cells #[.bool true, .bool dir, .slice none 0 0, .slice none 0 0] 58 (0, 0))) :
    ReadsRow (fun x cs => x = (⟨true, dir, [], []⟩ : S58) ∧ cs = [.bool true, .bool dir, .slice none 0 0, .slice none 0 0]) k58.sz w (some ⟨g, 0, none⟩) 1 [(⟨true, dir, [], []⟩ : S58)] := by
  refine ⟨rfl, by decide, fun _ => ⟨_, rfl, fun j p hj => ?_⟩⟩
  cases j with
  | succ j => simp at hj
  | zero =>
    simp at hj
    refine ⟨_, rfl, ⟨hj.symm, rfl⟩, fun i u hu => ?_⟩
    have hadd : (⟨g, 0, none⟩ : Addr).add (0 * k58.sz + i) = ⟨g, i, none⟩ := by
      unfold Addr.add
      rw [Nat.zero_mul, Nat.zero_add]
      split
      · rename_i e; subst e; rfl
      · simp
    rw [hadd]
    simp only [World.cell?, h]
    rcases i with _ | _ | _ | _ | i <;> simp at hu ⊢ <;> exact hu
theorem below_a1 (W : World) (o : Obj) : Below W.heap.size W (W.alloc o).drew := ((Below.refl _ W).alloc (Nat.le_refl _) _).drew
theorem below_a2 (W : World) (o o' : Obj) : Below W.heap.size W ((W.alloc o).alloc o').drew := (((Below.refl _ W).alloc (Nat.le_refl _) _).alloc (by simp) _).drew
theorem heap_alloc_new2 (W : World) (o o' : Obj) : ((W.alloc o).alloc o').heap[W.heap.size + 1]? = some o' := by
  have := heap_alloc_new (W.alloc o) o'
  rwa [World.size_alloc] at this
theorem kB_nil (w : World) (ok : Nat → Prop) : kB.R 5 w 0 ok (.slice none 0 0) [] := Kd.R_nil _ _ _ _ _
theorem k106_nil (w : World) (ok : Nat → Prop) : k106.R 106 w 0 ok (.slice none 0 0) [] := Kd.R_nil _ _ _ _ _
set_option maxRecDepth 100000 in
set_option maxHeartbeats 4000000 in
theorem fresh_callsP (ok : Nat → Prop) (w : World) (hok : ∀ k, w.heap.size ≤ k → ok k) (q b : Nat) (r : RS) (h : RefP ok w q b r) (hL : r.L.length ≤ 100000) (dir : Bool) :
    Calls Tryz.prog 47 #[.pointer (some ⟨q, 0, none⟩), .agg #[.bool true, .bool dir, .slice none 0 0, .slice none 0 0]] w fun e w' => e = .returned (.int .i64 (freshL r.L)) ∧ ∃ b', RefP ok w' q b' { r with L := placeL r.L (freshL r.L) ⟨true, dir, [], []⟩ } ∧ Keeps (fun k => k = q ∨ k = b) w w' ∧ (b' = b ∨ w.heap.size ≤ b') := by
  obtain ⟨cap, hbox, hrow⟩ := h.row
  obtain ⟨c0, c1, c2⟩ := hbox.cells
  have hqlt := hbox.lt
  have hW0 : Below w.heap.size w (w.alloc (.cells #[.bool true, .bool dir, .slice none 0 0, .slice none 0 0] 58)) := (Below.refl _ w).alloc (Nat.le_refl _) _
  have hloc : (w.alloc (.cells #[.bool true, .bool dir, .slice none 0 0, .slice none 0 0] 58)).heap[w.heap.size]? = some (.cells #[.bool true, .bool dir, .slice none 0 0, .slice none 0 0] 58 (0, 0)) := heap_alloc_new w _
  go_enter Tryz.func47, Tryz.ntmps47
  go_wp2
  have h' := h.below hW0
  generalize hWW : w.alloc (.cells #[.bool true, .bool dir, .slice none 0 0, .slice none 0 0] 58) = W at *
  have HW := Lib.hid hWW
  have hlt : w.heap.size < W.heap.size := (Array.getElem?_eq_some_iff.1 hloc).1
  clear hWW c0 c1 c2 hbox hrow
  obtain ⟨cap, hbox, hrow⟩ := h'.row
  obtain ⟨c0, c1, c2⟩ := hbox.cells
  have l0 : W.cell? ⟨w.heap.size, 0, none⟩ = some (.bool true) := by simp [World.cell?, hloc]
  have l1 : W.cell? ⟨w.heap.size, 1, none⟩ = some (.bool dir) := by simp [World.cell?, hloc]
  have l2 : W.cell? ⟨w.heap.size, 2, none⟩ = some (.slice none 0 0) := by simp [World.cell?, hloc]
  have l3 : W.cell? ⟨w.heap.size, 3, none⟩ = some (.slice none 0 0) := by simp [World.cell?, hloc]
  have hmx : (r.L.length : Int) ≤ 100000 := by omega
  go_loop [5] (fun i => ∃ k : Nat, k ≤ r.L.length ∧ i = .int .i64 k ∧ ∀ j, j < k → (at_ r.L j).f0 = true) (fun i => r.L.length - (intOf i).toNat)
  case atStart => exact ⟨0, Nat.zero_le _, rfl, fun j hj => by omega⟩
  case round =>
    obtain ⟨k, hk, rfl, hall⟩ := hrel
    by_cases hlt2 : k < r.L.length
    · obtain ⟨v2, v3, e0, e1, e2, e3, hv2, hv3, hfz⟩ := ref_elem (Kd.R_mono hrow (fun _ _ => trivial)) k hlt2
      obtain ⟨A2, k2, rfl, hk2, _⟩ := Kd.R_reads hv2
      obtain ⟨A3, k3, rfl, hk3, _⟩ := Kd.R_reads hv3
      cases hf0 : (at_ r.L k).f0 with
      | true =>
        rw [hf0] at e0
        have hall' : ∀ j, j < k + 1 → (at_ r.L j).f0 = true := fun j hj => by
          rcases Nat.lt_succ_iff_lt_or_eq.1 hj with h | h
          · exact hall j h
          · rw [h]; exact hf0
        have HA := Lib.hid hall'
        clear hall hall' hf0 hv2 hv3
        go_wp2
        go_round
        case rel => exact ⟨k + 1, by omega, by go_num, HA.out⟩
        case measure => simp [intOf]; omega
      | false =>
        rw [hf0] at e0
        have hfr := freshL_found hlt2 hall hf0
        have f0 : W.frozen? ⟨b, k * 4, none⟩ = false := hfz 0
        have f1 := hfz 1
        have f2 := hfz 2
        have f3 := hfz 3
        have HF := Lib.hid hfr
        clear hfr hall hf0 hv2 hv3
        go_wp2
        go_region
        all_goals
          go_wp2
          go_ret
          have R2 := h'.setT k hlt2 true dir
          refine ⟨by rw [HF.out]; rfl, b, ?_, ?_, .inl rfl⟩
          · rw [HF.out]
            have : placeL r.L k ⟨true, dir, [], []⟩ = r.L.set k ⟨true, dir, [], []⟩ := by unfold placeL; rw [if_pos hlt2]
            rw [this]
            exact R2.1.below (Below.refl _ _).drew
          · exact (Keeps.of_below hW0).then_ (R2.2.drew.mono (S' := fun k => k = q ∨ k = b) (fun k hk => .inr hk)) (fun k hk => .inl hk)
    · have hkl : k = r.L.length := by omega
      subst hkl
      have hfr := freshL_all hall
      have HF := Lib.hid hfr
      have hrM := R_readsM hrow
      have HR := Lib.hid hrow
      have HM := Lib.hid hrM
      have hqW : q < W.heap.size := hbox.lt
      have fq := hbox.frozen 0
      have hbW : b < W.heap.size := h'.toAt.row_lt
      have hokW : ∀ k, W.heap.size ≤ k → ok k := fun k hk => hok k (by omega)
      have hnq := World.new_ne W ⟨q, 0, none⟩ c0
      have HB := Lib.hid hbox
      clear hfr hall hrow hrM hbox h h'
      go_wp2
      go_region_law (first
          | (refine Kd.R_append_rows_step k58 (Rr := k58.M W 0 (fun k => ok k ∧ k < W.heap.size)) (w0 := W) 0 ?hg _ _ 59 58 (.agg #[.bool false, .bool false, .slice none 0 0, .slice none 0 0]) 56 rfl Tryz.underlying59 info_58 rfl (by decide) (by decide) _ [] r.L (some ⟨b, 0, none⟩) r.L.length cap ok (fun k => ok k ∧ k < W.heap.size) rfl rfl ?hO ?hR ?hK ?hok (fun k hk => hokW k (by (try simp at hk); omega)) ?hB (Nat.zero_le _) ?hl ?_
             (case hg => rfl)
             (case hO => exact R_emptyAt k58 (ok := ok) (hokW _ (by (try simp); try omega)) (by first | exact heap_alloc_new _ _ | exact heap_alloc_new2 W _ _ | exact (Below.heap_alloc _ _ _ (by simp)).trans (heap_alloc_new _ _)))
             (case hR => exact ReadsRow.imp_ HM.out (by first | exact (below_a1 W _) | exact below_a2 W _ _) (fun _ _ hp => hp))
             (case hK => intro x cs hx; exact Kd.M_below hx (by first | exact (below_a1 W _) | exact below_a2 W _ _))
             (case hok => intro k hk; exact ⟨hk.1, by have := hk.2; simp [Value.ownBlock, Act.eval]; omega⟩)
             (case hB => exact (show Below 0 W _ from (by first | exact (below_a1 W _) | exact below_a2 W _ _ : Below W.heap.size W _).mono (Nat.zero_le _)))
             (case hl => simp; omega)
             intro v1 w1 ho1 hb1 hg1 ha1
             have hB1 : Below W.heap.size W w1 := Below.grown (hg := hg1) (h := by first | exact (below_a1 W _) | exact below_a2 W _ _) (by simp; try omega) (fun k hk => by simp [Value.ownBlock, Act.eval] at hk; omega)
             have hv1 : ∀ k, v1.ownBlock = some k → W.heap.size ≤ k := fun k hk => by
               rcases ha1 with e | ⟨b', e, hle⟩
               · rw [e] at hk; simp [Value.ownBlock, Act.eval] at hk; omega
               · rw [e] at hk; injection hk with hk; simp at hle; omega
             have q1 := (hB1.cell (p := ⟨q, 0, none⟩) hqW).trans c0
             have m0 := (hB1.cell (p := ⟨w.heap.size, 0, none⟩) hlt).trans l0
             have m1 := (hB1.cell (p := ⟨w.heap.size, 1, none⟩) hlt).trans l1
             have m2 := (hB1.cell (p := ⟨w.heap.size, 2, none⟩) hlt).trans l2
             have m3 := (hB1.cell (p := ⟨w.heap.size, 3, none⟩) hlt).trans l3
             have hn1 := World.new_ne w1 _ q1
             have hn2 := World.new_ne w1 _ m0
             first
               | (have hlit1 : w1.heap[W.heap.size]? = some (.cells #[.bool true, .bool dir, .slice none 0 0, .slice none 0 0] 58 (0, 0)) := (hg1.block _ (by simp; omega) (by simp [Value.ownBlock, Act.eval])).trans ((Below.heap_alloc _ _ _ (by simp)).trans (heap_alloc_new W _)))
               | (have hlit1 : w1.heap[W.heap.size + 1]? = some (.cells #[.bool true, .bool dir, .slice none 0 0, .slice none 0 0] 58 (0, 0)) := (hg1.block _ (by simp) (by simp [Value.ownBlock, Act.eval])).trans (heap_alloc_new2 W _ _))
               | skip)
          | (refine Kd.R_append_rows_step k58 (Rr := fun x cs => x = (⟨true, dir, [], []⟩ : S58) ∧ cs = [.bool true, .bool dir, .slice none 0 0, .slice none 0 0]) (w0 := W) 0 ?hg _ _ 59 58 (.agg #[.bool false, .bool false, .slice none 0 0, .slice none 0 0]) 56 rfl Tryz.underlying59 info_58 rfl (by decide) (by decide) v1 ([] ++ r.L) [(⟨true, dir, [], []⟩ : S58)] _ 1 1 ok (fun _ => False) rfl rfl ?hO ?hR ?hK (fun _ hk => hk.elim) (fun k hk => hokW k (by have := hB1.size; (try simp at hk); omega)) ?hB (Nat.zero_le _) ?hl ?_
             (case hg => rfl)
             (case hO => first | exact ho1 | exact Kd.R_below ho1 ((Below.refl _ w1).alloc (Nat.le_refl _) _))
             (case hR => first | exact lit_reads (W := W) hlit1 | exact lit_reads (W := W) (heap_alloc_new w1 _))
             (case hK => rintro x cs ⟨rfl, rfl⟩; exact PTreeTwins.k58_mkM _ 0 _ ⟨true, dir, [], []⟩ (kB_nil _ _) (k106_nil _ _))
             (case hB => first | exact hB1.mono (Nat.zero_le _) | exact (hB1.alloc hB1.size _).mono (Nat.zero_le _))
             (case hl => simp; omega)
             intro v2 w2 ho2 hb2 hg2 ha2
             have hB2 : Below W.heap.size W w2 := Below.grown (hg := hg2) (h := by first | exact hB1 | exact hB1.alloc hB1.size _) (by have := hB1.size; simp; try omega) (fun k hk => hv1 k hk)
             obtain ⟨gz, cz, ez, _, _, _, _⟩ := Kd.R_form ho2 (by simp)
             have hgz : W.heap.size ≤ gz := by
               rcases ha2 with e | ⟨b', e, hle⟩
               · exact hv1 gz (by rw [← e, ez]; rfl)
               · rw [ez] at e; simp [Value.ownBlock] at e; have := hB1.size; (try simp at hle); omega
             subst ez
             have q2 := (hB2.cell (p := ⟨q, 0, none⟩) hqW).trans c0
             have fq2 := (World.frozen?_of_block (w := W) (a := ⟨q, 0, none⟩) (hB2.block q hqW)).trans fq))
      all_goals
        go_wp2
        go_ret
        refine ⟨by rw [HF.out]; simp, gz, ⟨cz, ?_, ?_⟩, ?_, .inr (by omega)⟩
        · have hx := (RBox.keeps (S := fun k => W.heap.size ≤ k) HB.out (Keeps.of_below hB2) (by omega)).set0 (some ⟨gz, 0, none⟩) (r.L.length + 1) cz
          have hpl : (placeL r.L (freshL r.L) (⟨true, dir, [], []⟩ : S58)).length = r.L.length + 1 := by rw [HF.out]; unfold placeL; rw [if_neg (by omega)]; simp
          rw [show ({ r with L := placeL r.L (freshL r.L) (⟨true, dir, [], []⟩ : S58) } : RS).L.length = r.L.length + 1 from hpl]
          exact hx
        · have hpe : placeL r.L (freshL r.L) (⟨true, dir, [], []⟩ : S58) = [] ++ r.L ++ [(⟨true, dir, [], []⟩ : S58)] := by rw [HF.out]; unfold placeL; rw [if_neg (by omega)]; simp
          show k58.R 58 _ 0 _ (.slice _ (placeL r.L (freshL r.L) (⟨true, dir, [], []⟩ : S58)).length cz) (placeL r.L (freshL r.L) (⟨true, dir, [], []⟩ : S58))
          rw [hpe]
          exact Kd.R_set ho2 ((hB2.block q hqW).trans HB.out) (by decide) 0 _
        · exact (Keeps.of_below hW0).then_ (S2 := fun k => k = q ∨ k = b) ((Keeps.of_below hB2 : Keeps (fun k => k = q ∨ k = b) W w2).setCell (p := ⟨q, 0, none⟩) (.inl (.inl rfl)) _) (fun k hk => .inl hk)
end Go.Proofs.YtmjhflmkgmfjkaaGreatDoor
