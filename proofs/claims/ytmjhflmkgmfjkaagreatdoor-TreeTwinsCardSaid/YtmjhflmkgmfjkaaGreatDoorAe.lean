/- A part of the proof: I2, J, J1, J2, J3, J4, J5. -/
import Derived.Test.YtmjhflmkgmfjkaaGreatDoorAd
import Derived.Test.YtmjhflmkgmfjkaaGreatDoorAc
import Derived.Test.YtmjhflmkgmfjkaaGreatDoorPc
set_option linter.unusedVariables false
set_option linter.unusedSimpArgs false
namespace Go.Proofs.YtmjhflmkgmfjkaaGreatDoor
open Go.RowKit Go.Proofs.YtmjhflmkgmfjkaaGreatDoorW.PrintWords Go.Proofs.YtmjhflmkgmfjkaaGreatDoorW.PrintMore
open PTreeTwins (S58 S106 S35 z58 z106)
theorem acts_cut {w : World} {t : Nat} {f g : Nat → Nat} {r : RS} {N a : Nat} (i : Nat) (hI : ImplAt w t f g r) (hL : Lim r N) (ha : Live r.L a) (had : (at_ r.L a).f1 = false) (hi : i ≤ (at_ r.L a).f2.length)
    (bt bn bi : Nat) (h1 : BoxB w bt (.pointer (some ⟨t, 0, none⟩)) 25) (h2 : BoxB w bn (.pointer (some ⟨f a, 0, none⟩)) 52) (h3 : BoxB w bi (.int .i64 i) 3) :
    Acts 74 #[.pointer (some ⟨bt, 0, none⟩), .pointer (some ⟨bn, 0, none⟩), .pointer (some ⟨bi, 0, none⟩)] w (Did w t f g r { r with L := setF2 r.L a ((at_ r.L a).f2.take i), bl := r.bl + (allB (at_ r.L a).f2.length - allB i) }) := by
  refine ⟨enters74, fun k => ?_⟩
  have hk : Below w.heap.size w (w.drewN k) := pw_below_drewN (Below.refl _ _) k
  have h0 := hL.bl1
  have h0' := hL.small
  obtain ⟨v, hnb, hv⟩ := (hI.node a ha).2 had
  obtain ⟨A, c, rfl, hc, hC⟩ := Kd.R_reads hv
  refine (cutAct_calls (w.drewN k) t (f 0) (f a) r.bl r.ino i A c (at_ r.L a).f2 (hI.below hk).tree (hnb.below hk) (Kd.R_below hv hk) (hL.data a) hi bt bn bi (h1.below hk) (h2.below hk) (h3.below hk) hL.bl0 (by omega)).mono ?_
  rintro e w2 ⟨he, g1, g2, g3⟩
  exact ⟨he, did_data hI ha had g1 g2 ⟨g3.os, g3.tape, g3.output, g3.size, g3.block⟩⟩
def iCut (r : RS) (n : Option Nat) (i : Int) : RS × Int := match n with
  | none => (r, 8)
  | some a => if (at_ r.L a).f1 = true then (r, 10) else if i < 0 ∨ i > (at_ r.L a).f2.length then (r, 1) else
    ({ r with L := setF2 r.L a ((at_ r.L a).f2.take i.toNat), bl := r.bl + (allB (at_ r.L a).f2.length - allB i) }, 0)
set_option maxHeartbeats 2000000 in
set_option maxRecDepth 100000 in
theorem cut_calls (w : World) (t : Nat) (f g : Nat → Nat) (r : RS) (N : Nat) (hI : ImplAt w t f g r) (hL : Lim r N) (n : Option Nat) (hn : ∀ a, n = some a → Live r.L a) (i : Int) :
    Calls Tryz.prog 39 #[.pointer (some ⟨t, 0, none⟩), ptrO f n, .int .i64 i] w (PlanPost w t f g r (iCut r n i)) := by
  obtain ⟨c0, c1, c2⟩ := hI.tree.cells
  have hlt : t < w.heap.size := World.block_lt_of_cell? w _ c0
  cases n with
  | none =>
    simp only [ptrO, Option.map_none]
    go_enter Tryz.func39, Tryz.ntmps39
    go_wp2_with (go_at_call 31; refine (isFile_nil _).mono ?_; rintro e w' ⟨rfl, rfl⟩)
    go_ret2
    exact PlanPost.bad rfl (by decide) ((((Below.refl _ w).alloc (Nat.le_refl _) _).alloc (by simp) _).alloc (by simp; omega) _)
  | some a =>
    have ha := hn a rfl
    simp only [ptrO, Option.map_some]
    have hB3 : Below w.heap.size w (((w.alloc (.cells #[.pointer (some ⟨t, 0, none⟩)] 25)).alloc (.cells #[.pointer (some ⟨f a, 0, none⟩)] 52)).alloc (.cells #[.int .i64 i] 3)) :=
      (((Below.refl _ w).alloc (Nat.le_refl _) _).alloc (by simp) _).alloc (by simp; omega) _
    have hnode := hI.node a ha
    cases had : (at_ r.L a).f1 with
    | true =>
      have hd := hnode.1 had
      have Had := Lib.hid had
      clear had
      go_enter Tryz.func39, Tryz.ntmps39
      go_wp2_with (go_at_call 31; refine (isFile_node _ true _ _ _ _ (hd.node.below hB3)).mono ?_; rintro e w' ⟨rfl, rfl⟩)
      go_ret2
      exact PlanPost.bad (by simp [iCut, Had.out]) (by decide) hB3
    | false =>
      obtain ⟨v, hnb, hv⟩ := hnode.2 had
      obtain ⟨A, c, rfl, hc, hC⟩ := Kd.R_reads hv
      obtain ⟨n0, n1, n2, n3⟩ := hnb.cells
      have hnlt := hnb.lt
      have hnl3 : ¬ f a = w.heap.size := by omega
      have hnl4 : ¬ f a = w.heap.size + 1 := by omega
      have hnl5 : ¬ f a = w.heap.size + 1 + 1 := by omega
      have hnl1 : f a < w.heap.size + 1 := by omega
      have hnl2 : f a < w.heap.size + 1 + 1 := by omega
      have hdl := hL.data a
      have b0 : BoxB (((w.alloc (.cells #[.pointer (some ⟨t, 0, none⟩)] 25)).alloc (.cells #[.pointer (some ⟨f a, 0, none⟩)] 52)).alloc (.cells #[.int .i64 i] 3)) w.heap.size (.pointer (some ⟨t, 0, none⟩)) 25 := (Below.heap_alloc _ _ _ (by simp; omega)).trans ((Below.heap_alloc _ _ _ (by simp)).trans (heap_alloc_new w _))
      have b1 : BoxB (((w.alloc (.cells #[.pointer (some ⟨t, 0, none⟩)] 25)).alloc (.cells #[.pointer (some ⟨f a, 0, none⟩)] 52)).alloc (.cells #[.int .i64 i] 3)) (w.heap.size + 1) (.pointer (some ⟨f a, 0, none⟩)) 52 := (Below.heap_alloc _ _ _ (by simp)).trans (by have := heap_alloc_new (w.alloc (.cells #[.pointer (some ⟨t, 0, none⟩)] 25)) (.cells #[.pointer (some ⟨f a, 0, none⟩)] 52); rw [World.size_alloc] at this; exact this)
      have b2 : BoxB (((w.alloc (.cells #[.pointer (some ⟨t, 0, none⟩)] 25)).alloc (.cells #[.pointer (some ⟨f a, 0, none⟩)] 52)).alloc (.cells #[.int .i64 i] 3)) (w.heap.size + 1 + 1) (.int .i64 i) 3 := by have := heap_alloc_new ((w.alloc (.cells #[.pointer (some ⟨t, 0, none⟩)] 25)).alloc (.cells #[.pointer (some ⟨f a, 0, none⟩)] 52)) (.cells #[.int .i64 i] 3); rw [World.size_alloc, World.size_alloc] at this; exact this
      have hNB : ∀ W, Below w.heap.size w W → NodeB W (f a) false (.slice A (at_ r.L a).f2.length c) (.map none) 0 := fun W hW => hnb.below hW
      obtain ⟨res, hrs⟩ : ∃ res, res = iCut r (some a) i := ⟨_, rfl⟩
      have hrm : res = if i < 0 ∨ i > (at_ r.L a).f2.length then (r, 1) else
        ({ r with L := setF2 r.L a ((at_ r.L a).f2.take i.toNat), bl := r.bl + (allB (at_ r.L a).f2.length - allB i) }, 0) := by rw [hrs]; simp only [iCut]; rw [had]; rfl
      rw [← hrs]
      clear hrs
      have Had := Lib.hid had
      have HC := Lib.hid hC
      have HV := Lib.hid hv
      clear had hC hv
      obtain ⟨x, hx⟩ : ∃ x, x = (at_ r.L a).f2 := ⟨_, rfl⟩
      rw [← hx] at hrm hdl n1 hc hnb hNB
      have Hrm := Lib.hid hrm
      have Hx := Lib.hid hx
      clear hrm hx
      by_cases h0 : i < 0
      · have d1 : decide (i < 0) = true := decide_eq_true h0
        have Hr : Hid (res = (r, 1)) := Lib.hid (by rw [Hrm.out, if_pos (.inl h0)])
        clear h0
        go_enter Tryz.func39, Tryz.ntmps39
        go_wp2_with (go_at_call 31; refine (isFile_node _ false _ _ _ _ (hnb.below hB3)).mono ?_; rintro e w' ⟨rfl, rfl⟩)
        go_quiet (fail)
        go_wp2
        go_ret2
        exact PlanPost.bad (by rw [Hr.out]) (by decide) (pw_below_drewN hB3 _)
      · have d1 : decide (i < 0) = false := decide_eq_false h0
        by_cases h1 : i > (x.length : Int)
        · have d2 : decide ((x.length : Int) < i) = true := decide_eq_true h1
          have Hr : Hid (res = (r, 1)) := Lib.hid (by rw [Hrm.out, if_pos (.inr h1)])
          clear h0 h1
          go_enter Tryz.func39, Tryz.ntmps39
          go_wp2_with (go_at_call 31; refine (isFile_node _ false _ _ _ _ (hnb.below hB3)).mono ?_; rintro e w' ⟨rfl, rfl⟩)
          go_quiet (fail)
          go_wp2
          go_ret2
          exact PlanPost.bad (by rw [Hr.out]) (by decide) (pw_below_drewN hB3 _)
        · have d2 : decide ((x.length : Int) < i) = false := decide_eq_false h1
          have Hr : Hid (res = ({ r with L := setF2 r.L a (x.take i.toNat), bl := r.bl + (allB x.length - allB i) }, 0)) := Lib.hid (by rw [Hrm.out, if_neg (by rintro (h | h); exact h0 h; exact h1 h)])
          have hit : i.toNat ≤ x.length := by omega
          have hii : (i.toNat : Int) = i := by omega
          clear h0 h1
          go_enter Tryz.func39, Tryz.ntmps39
          go_wp2_with (go_at_call 31; refine (isFile_node _ false _ _ _ _ (hnb.below hB3)).mono ?_; rintro e w' ⟨rfl, rfl⟩)
          go_quiet (fail)
          go_wp2
          go_ret2
          refine ⟨_, by rw [Hr.out]; rfl, pw_below_drewN hB3 _, fun _ => ⟨_, _, rfl, ?_⟩⟩
          rw [Hr.out]
          have := acts_cut i.toNat (hI.below (pw_below_drewN hB3 nq)) hL ha Had.out (by rw [← Hx.out]; exact hit) w.heap.size (w.heap.size + 1) (w.heap.size + 1 + 1) (b0.below (pw_below_drewN (Below.refl _ _) nq)) (b1.below (pw_below_drewN (Below.refl _ _) nq)) (by rw [hii]; exact b2.below (pw_below_drewN (Below.refl _ _) nq))
          rw [← Hx.out, hii] at this
          exact this
end Go.Proofs.YtmjhflmkgmfjkaaGreatDoor
namespace Go.Proofs.YtmjhflmkgmfjkaaGreatDoor
open Go.RowKit Go.Proofs.YtmjhflmkgmfjkaaGreatDoorW.PrintWords Go.Proofs.YtmjhflmkgmfjkaaGreatDoorW.PrintMore
open PTreeTwins (S58 S106 S35 z58 z106)
/-- entries with unlike names: the place of a name -/
theorem atS_some {s : List S106} {n : ByteArray} {j : Nat} (h : atS s n = some j) : ∃ hj : j < s.length, (s[j]).f0 = n ∧ n ≠ ByteArray.empty := by
  unfold atS at h
  split at h
  · cases h
  · rename_i hn
    obtain ⟨h1, h2, _⟩ := List.findIdx?_eq_some_iff_getElem.1 h
    exact ⟨h1, by simpa using h2, hn⟩
theorem named_set_split (s : List S106) (j : Nat) (hj : j < s.length) (e : S106) : s = s.take j ++ s[j] :: s.drop (j + 1) ∧ s.set j e = s.take j ++ e :: s.drop (j + 1) := by
  constructor
  · rw [List.getElem_cons_drop]; simp
  · rw [List.set_eq_take_append_cons_drop, if_pos hj]
theorem whose_atS {s : List S106} {n : ByteArray} {k : Nat} (h : whose s n = some k) (hn : n ≠ ByteArray.empty) : ∃ j, ∃ hj : j < s.length, atS s n = some j ∧ (s[j]).f0 = n := by
  obtain ⟨e, he, h1, _⟩ := whose_mem h
  have hm := (named_mem.1 he).1
  unfold atS
  rw [if_neg hn]
  cases hf : s.findIdx? (fun e => decide (e.f0 = n)) with
  | none =>
    have := (List.findIdx?_eq_none_iff.1 hf) e hm
    simp [h1] at this
  | some j =>
    obtain ⟨a, b, _⟩ := List.findIdx?_eq_some_iff_getElem.1 hf
    exact ⟨j, a, rfl, by simpa using b⟩
/-- what the names are when slot j, of name n, is written anew -/
theorem named_at_set {s : List S106} {n : ByteArray} {j : Nat} (hj : j < s.length) (hjn : (s[j]).f0 = n) (hn : n ≠ ByteArray.empty) (hnd : ((named s).map (·.f0)).Nodup) (e : S106) :
    ((named s).filter fun x => decide (x.f0 ≠ n)) = named (s.take j) ++ named (s.drop (j + 1)) ∧ named s = named (s.take j) ++ s[j] :: named (s.drop (j + 1)) ∧ named (s.set j e) = named (s.take j) ++ named (e :: s.drop (j + 1)) := by
  obtain ⟨h1, h2⟩ := named_set_split s j hj e
  have h3 : named s = named (s.take j) ++ s[j] :: named (s.drop (j + 1)) := by
    conv => lhs; rw [h1]
    rw [named_append, named_cons_named _ _ (by rw [hjn]; exact hn)]
  refine ⟨?_, h3, by rw [h2, named_append]⟩
  rw [h3] at hnd ⊢
  rw [List.map_append, List.map_cons, List.nodup_append] at hnd
  obtain ⟨d1, d2, d3⟩ := hnd
  rw [List.filter_append, List.filter_cons, if_neg (by simp [hjn])]
  congr 1
  · refine List.filter_eq_self.2 (fun x hx => ?_)
    have := d3 _ (List.mem_map.2 ⟨x, hx, rfl⟩) _ List.mem_cons_self
    rw [hjn] at this
    simpa using this
  · refine List.filter_eq_self.2 (fun x hx => ?_)
    have := (List.nodup_cons.1 d2).1
    have h5 : x.f0 ≠ n := fun e => this (by rw [hjn, ← e]; exact List.mem_map.2 ⟨x, hx, rfl⟩)
    simpa using h5
theorem named_take {s : List S106} {n : ByteArray} {k : Nat} (h : whose s n = some k) (hn : n ≠ ByteArray.empty) (hnd : ((named s).map (·.f0)).Nodup) : named (takeS s n) = (named s).filter fun x => decide (x.f0 ≠ n) := by
  obtain ⟨j, hj, h1, h2⟩ := whose_atS h hn
  obtain ⟨a, b, c⟩ := named_at_set hj h2 hn hnd z106
  unfold takeS
  rw [h1]
  simp only
  rw [c, a, named_cons_free _ _ rfl]
theorem takeS_length (s : List S106) (n : ByteArray) : (takeS s n).length = s.length := by
  unfold takeS; split <;> simp
theorem swapS_length (s : List S106) (n : ByteArray) (i : Int) : (swapS s n i).length = s.length := by
  unfold swapS; split <;> simp
theorem moveS_length (s : List S106) (n o : ByteArray) : (moveS s n o).length = s.length := by
  unfold moveS; split <;> simp
theorem slotsOf_len {s s' : List S106} (h : s.length = s'.length) : slotsOf s = slotsOf s' := by unfold slotsOf; rw [h]
theorem whose_entry {s : List S106} {n : ByteArray} {k : Nat} (h : whose s n = some k) {j : Nat} (hj : j < s.length) (h1 : atS s n = some j) (hn : n ≠ ByteArray.empty) : eix (s[j]) = k ∧ s[j] ∈ named s := by
  unfold atS at h1
  rw [if_neg hn] at h1
  obtain ⟨_, hb, hc⟩ := List.findIdx?_eq_some_iff_getElem.1 h1
  have hb' : (s[j]).f0 = n := by simpa using hb
  have hmem : s[j] ∈ named s := named_mem.2 ⟨List.getElem_mem hj, by rw [hb']; exact hn⟩
  refine ⟨?_, hmem⟩
  obtain ⟨e1, e2⟩ := named_set_split s j hj z106
  have h3 : named s = named (s.take j) ++ s[j] :: named (s.drop (j + 1)) := by
    conv => lhs; rw [e1]
    rw [named_append, named_cons_named _ _ (by rw [hb']; exact hn)]
  unfold whose at h
  rw [h3, List.find?_append] at h
  have hnone : (named (s.take j)).find? (fun e => decide (e.f0 = n)) = none := by
    refine List.find?_eq_none.2 (fun x hx => ?_)
    have hx' := (named_mem.1 hx).1
    obtain ⟨i, hi, rfl⟩ := List.getElem_of_mem hx'
    have hij : i < j := by rw [List.length_take] at hi; omega
    have := hc i hij
    rw [List.getElem_take]
    simpa using this
  rw [hnone] at h
  simpa [hb'] using h
/-- a slot of another thing: the names are as they were -/
theorem named_swap {s : List S106} {n : ByteArray} {k : Nat} (h : whose s n = some k) (hn : n ≠ ByteArray.empty) (hnd : ((named s).map (·.f0)).Nodup) (i : Int) : named (swapS s n i) = (named s).map fun x => if x.f0 = n then ⟨n, i⟩ else x := by
  obtain ⟨j, hj, h1, h2⟩ := whose_atS h hn
  have hgd : (s.getD j z106).f0 = n := by rw [List.getD_eq_getElem?_getD, List.getElem?_eq_getElem hj]; exact h2
  obtain ⟨a, b, c⟩ := named_at_set hj h2 hn hnd ⟨(s.getD j z106).f0, i⟩
  unfold swapS
  rw [h1]
  simp only
  rw [c, named_cons_named _ _ (by simp only; rw [hgd]; exact hn), b, List.map_append, List.map_cons, if_pos h2]
  have hne : ∀ x, x ∈ named (s.take j) ∨ x ∈ named (s.drop (j + 1)) → x.f0 ≠ n := fun x hx => by
    have : x ∈ (named s).filter fun x => decide (x.f0 ≠ n) := by rw [a]; exact List.mem_append.2 hx
    simpa using (List.mem_filter.1 this).2
  congr 1
  · exact (List.map_id' _).symm.trans (List.map_congr_left (fun x hx => (if_neg (hne x (.inl hx))).symm))
  · congr 1
    · simp only [hgd]
    · exact (List.map_id' _).symm.trans (List.map_congr_left (fun x hx => (if_neg (hne x (.inr hx))).symm))
/-- a slot of another name: one name goes, one comes -/
theorem named_move {s : List S106} {o n : ByteArray} {k : Nat} (h : whose s o = some k) (ho : o ≠ ByteArray.empty) (hn : n ≠ ByteArray.empty) (hnd : ((named s).map (·.f0)).Nodup) : ∃ e, eix e = k ∧ e.f0 = n ∧ (named (moveS s o n)).Perm (e :: (named s).filter fun x => decide (x.f0 ≠ o)) := by
  obtain ⟨j, hj, h1, h2⟩ := whose_atS h ho
  obtain ⟨he, _⟩ := whose_entry h hj h1 ho
  have hgd : s.getD j z106 = s[j] := by rw [List.getD_eq_getElem?_getD, List.getElem?_eq_getElem hj]; rfl
  obtain ⟨a, b, c⟩ := named_at_set hj h2 ho hnd ⟨n, (s[j]).f1⟩
  refine ⟨⟨n, (s[j]).f1⟩, he, rfl, ?_⟩
  unfold moveS
  rw [h1]
  simp only
  rw [hgd, c, named_cons_named _ _ hn, a]
  exact List.perm_middle
theorem adel_ents (f : Nat → Nat) (l : List S106) (n : ByteArray) : adel (l.map (entVal f)) n = (l.filter fun x => decide (x.f0 ≠ n)).map (entVal f) := by
  unfold adel
  rw [List.filter_map]
  congr 1
  refine List.filter_congr (fun x _ => ?_)
  simp only [Function.comp, entVal, ba_beq]
  by_cases h : n = x.f0
  · simp [h]
  · have h' : ¬ x.f0 = n := fun e => h e.symm
    simp [h, h']
theorem adel_perm {l l' : List (ByteArray × Value)} (h : l.Perm l') (n : ByteArray) : (adel l n).Perm (adel l' n) := List.Perm.filter _ h
theorem aset_has {l : List (ByteArray × Value)} {n : ByteArray} {v : Value} (h : (aget l n).isSome) : aset l n v = l.map (fun p => if n == p.1 then (n, v) else p) := by
  unfold aset
  rw [if_pos]
  unfold aget at h
  simpa using h
/-- what a tree is when some directories' names were written, and some things went -/
theorem did_dirs {w w2 : World} {t : Nat} {f g : Nat → Nat} {r r' : RS} (T : Nat → Prop) (hI : ImplAt w t f g r) (hT : ∀ i, T i → Live r.L i ∧ (at_ r.L i).f1 = true) (hlive : ∀ i, Live r'.L i → Live r.L i)
    (hsame : ∀ i, Live r'.L i → ¬ T i → at_ r'.L i = at_ r.L i) (hdir : ∀ i, Live r'.L i → T i → NodeAt w2 (f i) (g i) (at_ r'.L i) f)
    (ht : TreeB w2 t (f 0) r'.bl r'.ino) (hk : Keeps (fun j => j = t ∨ ∃ i, T i ∧ (j = f i ∨ j = g i)) w w2) : Did w t f g r r' w2 := by
  have hS : ∀ k, (k = t ∨ ∃ i, T i ∧ (k = f i ∨ k = g i)) → Own t f g r.L k := fun k hk => by
    rcases hk with rfl | ⟨i, hi, h⟩
    · exact .inl rfl
    · exact .inr ⟨i, (hT i hi).1, h.imp id (fun e => ⟨(hT i hi).2, e⟩)⟩
  have hdd : ∀ i, Live r'.L i → (at_ r'.L i).f1 = true → (at_ r.L i).f1 = true := fun i hl hd => by
    by_cases h : T i
    · exact (hT i h).2
    · rw [← hsame i hl h]; exact hd
  refine ⟨f, g, impl_upd T (fun j => j = t ∨ ∃ i, T i ∧ (j = f i ∨ j = g i)) hI hk (fun k hs _ => hI.own_nobytes (hS k hs)) ht ?_ (fun i hl hTi => hdir i hl hTi) (fun i j hi hj e => hI.inj i j (hlive i hi) (hlive j hj) e) (fun i j hi hj hdi hdj e => hI.injm i j (hlive i hi) (hlive j hj) (hdd i hi hdi) (hdd j hj hdj) e), hk.mono hS, ?_⟩
  · intro i hl hTi
    have hl' := hlive i hl
    refine ⟨hl', hsame i hl hTi, rfl, rfl, ?_, ?_, fun _ _ _ => rfl⟩
    · rintro (e | ⟨j, hj, e | e⟩)
      · exact hI.f_ne_t hl' e.symm
      · exact hTi (by rw [hI.inj i j hl' (hT j hj).1 e]; exact hj)
      · exact hI.f_ne_g hl' (hT j hj).1 (hT j hj).2 e
    · intro hd
      rintro (e | ⟨j, hj, e | e⟩)
      · exact hI.g_ne_t hl' hd e.symm
      · exact hI.f_ne_g (hT j hj).1 hl' hd e.symm
      · exact hTi (by rw [hI.injm i j hl' (hT j hj).1 hd (hT j hj).2 e]; exact hj)
  · rintro k (rfl | ⟨i, hi, h⟩)
    · exact .inl (.inl rfl)
    · exact .inl (.inr ⟨i, hlive i hi, h.imp id (fun ⟨hd, e⟩ => ⟨hdd i hi hd, e⟩)⟩)
theorem FileAt.of_heap {w w' : World} {b : Nat} {x : S58} (h : FileAt w b x) (hh : w'.heap = w.heap) : FileAt w' b x := by
  obtain ⟨v, h1, h2⟩ := h
  exact ⟨v, by unfold NodeB at *; rw [hh]; exact h1, Kd.R_step h2 (fun k _ _ => by rw [hh])⟩
theorem NodeAt.of_heap {w w' : World} {b m : Nat} {x : S58} {f : Nat → Nat} (h : NodeAt w b m x f) (hh : w'.heap = w.heap) : NodeAt w' b m x f :=
  ⟨fun e => ⟨by have := (h.1 e).node; unfold NodeB at *; rw [hh]; exact this, (h.1 e).kids.of_block (by rw [hh])⟩, fun e => (h.2 e).of_heap hh⟩
theorem nblocks_at {w : World} {b m : Nat} {x : S58} {f : Nat → Nat} (h : NodeAt w b m x f) (h1 : x.f2.length ≤ 8458240) (h2 : x.f3.length ≤ 2000) :
    Calls Tryz.prog 71 #[.pointer (some ⟨b, 0, none⟩)] w fun e w' => e = .returned (.int .i64 (takes x)) ∧ w = w' := by
  cases hd : x.f1 with
  | true =>
    have := nblocks_dir b _ _ _ w (h.1 hd).node (slotsOf_nonneg _) (by unfold slotsOf; omega)
    unfold takes needS
    rw [if_pos hd]; exact this
  | false =>
    obtain ⟨v, hn, hv⟩ := h.2 hd
    obtain ⟨A, c, rfl, hc, hC⟩ := Kd.R_reads hv
    have := nblocks_file b A x.f2.length c _ _ w hn h1
    unfold takes
    rw [if_neg (by rw [hd]; decide)]; exact this
theorem takes_bd {x : S58} (h1 : x.f2.length ≤ 8458240) (h2 : x.f3.length ≤ 2000) : 0 ≤ takes x ∧ takes x ≤ 16720 := by
  unfold takes needS
  split
  · exact allB_bd _ (by unfold slotsOf; omega) (by unfold slotsOf; omega)
  · exact allB_bd _ (by omega) (by omega)
end Go.Proofs.YtmjhflmkgmfjkaaGreatDoor
namespace Go.Proofs.YtmjhflmkgmfjkaaGreatDoor
open Go.RowKit Go.Proofs.YtmjhflmkgmfjkaaGreatDoorW.PrintWords Go.Proofs.YtmjhflmkgmfjkaaGreatDoorW.PrintMore
open PTreeTwins (S58 S106 S35 z58 z106)
theorem KidsAt.del {w1 : World} {m : Nat} {s : List S106} {f : Nat → Nat} {kv : List (ByteArray × Value)} {n : ByteArray} {k : Nat} (hp : kv.Perm ((named s).map (entVal f))) (h : MapB w1 m (adel kv n)) (hw : whose s n = some k) (hn : n ≠ ByteArray.empty) (hnd : ((named s).map (·.f0)).Nodup) : KidsAt w1 m (takeS s n) f := by
  refine ⟨_, h, ?_⟩
  have := adel_perm hp n
  rw [adel_ents] at this
  rw [named_take hw hn hnd]
  exact this
theorem KidsAt.swap {w1 : World} {m : Nat} {s : List S106} {f : Nat → Nat} {kv : List (ByteArray × Value)} {n : ByteArray} {k i : Nat} (hm : (akeys kv).Nodup) (hp : kv.Perm ((named s).map (entVal f))) (h : MapB w1 m (aset kv n (.pointer (some ⟨f i, 0, none⟩)))) (hw : whose s n = some k) (hn : n ≠ ByteArray.empty) (hnd : ((named s).map (·.f0)).Nodup) : KidsAt w1 m (swapS s n ((i : Int) + 1)) f := by
  refine ⟨_, h, ?_⟩
  rw [aset_has (by rw [aget_perm hp hm, aget_ents, hw]; rfl), named_swap hw hn hnd]
  refine (hp.map _).trans (List.Perm.of_eq ?_)
  rw [List.map_map, List.map_map]
  refine List.map_congr_left (fun e _ => ?_)
  simp only [Function.comp, entVal, ba_beq]
  by_cases h : e.f0 = n
  · rw [if_pos h, if_pos (by simp [h])]
    simp [eix]
  · rw [if_neg h, if_neg (by simpa using fun e => h e.symm)]
theorem DirAt.mk' {w : World} {b m : Nat} {x : S58} {f : Nat → Nat} {s : List S106} {v : Int} (hn : NodeB w b true (.slice none 0 0) (.map (some m)) v) (hk : KidsAt w m s f) (hv : v = slotsOf s) : DirAt w b m { x with f3 := s } f := ⟨by rw [← hv]; exact hn, hk⟩
theorem kid_ne {L : List S58} {way : Nat → List ByteArray} (hG : Good L way) {a k : Nat} {n : ByteArray} (ha : Live L a) (h : whose (at_ L a).f3 n = some k) : Live L k ∧ way k = way a ++ [n] ∧ k ≠ a ∧ k ≠ 0 := by
  obtain ⟨e, he, rfl, rfl⟩ := whose_mem h
  obtain ⟨_, h1, h2⟩ := hG.kid a ha e he
  refine ⟨h1, h2, fun e => ?_, fun e => ?_⟩
  · rw [e] at h2
    have := congrArg List.length h2
    simp at this
  · rw [e, hG.root.2.2] at h2
    have := congrArg List.length h2
    simp at this
/-- what remove's act leaves -/
def removedRS (r : RS) (a k : Nat) (nm : ByteArray) : RS := { rFree r k with L := setF3 (rFree r k).L a (takeS (at_ (rFree r k).L a).f3 nm) }
theorem removed_at (r : RS) (a k : Nat) (nm : ByteArray) (ha : Live r.L a) (hk : Live r.L k) (hne : k ≠ a) (i : Nat) : at_ (removedRS r a k nm).L i = if i = a then { at_ r.L a with f3 := takeS (at_ r.L a).f3 nm } else if i = k then z58 else at_ r.L i := by
  have h1 := live_lt ha
  have h2 := live_lt hk
  unfold removedRS rFree
  simp only
  rw [at_setF3 _ _ _ (by simpa using h1), at_set _ _ _ h2, at_set _ _ _ h2, if_neg (show ¬ a = k from fun e => hne e.symm)]
theorem removed_live (r : RS) (a k : Nat) (nm : ByteArray) (ha : Live r.L a) (hk : Live r.L k) (hne : k ≠ a) (i : Nat) : Live (removedRS r a k nm).L i ↔ Live r.L i ∧ i ≠ k := by
  unfold Live
  rw [removed_at r a k nm ha hk hne]
  by_cases h1 : i = a
  · subst h1; simp only [if_true]; exact ⟨fun h => ⟨h, fun e => hne e.symm⟩, fun h => h.1⟩
  · rw [if_neg h1]
    by_cases h2 : i = k
    · subst h2; simp [z58]
    · rw [if_neg h2]; simp [h2]
set_option maxHeartbeats 1000000 in
set_option maxRecDepth 100000 in
theorem acts_remove {w : World} {t : Nat} {f g : Nat → Nat} {way : Nat → List ByteArray} {r : RS} {N a k : Nat} {nm : ByteArray} {lv : Value} (hI : ImplAt w t f g r) (hG : Good r.L way) (hL : Lim r N) (ha : Live r.L a) (had : (at_ r.L a).f1 = true) (hw : whose (at_ r.L a).f3 nm = some k) (hnm : nm ≠ ByteArray.empty)
    (bs bt : Nat) (h1 : SpotB w bs f ⟨some a, nm, some k⟩ lv) (h2 : BoxB w bt (.pointer (some ⟨t, 0, none⟩)) 25) :
    Acts 75 #[.pointer (some ⟨bs, 0, none⟩), .pointer (some ⟨bt, 0, none⟩)] w (Did w t f g r (removedRS r a k nm)) := by
  refine ⟨enters75, fun nn => ?_⟩
  obtain ⟨hkl, _, hka, _⟩ := kid_ne hG ha hw
  have hb : Below w.heap.size w (w.drewN nn) := pw_below_drewN (Below.refl _ _) nn
  obtain ⟨W, hW⟩ : ∃ W, W = w.drewN nn := ⟨_, rfl⟩
  rw [← hW] at hb ⊢
  have hI' := hI.below hb
  obtain ⟨hn, kv, hm, hp⟩ := (hI'.node a ha).1 had
  obtain ⟨n0, n1, n2, n3⟩ := hn.cells
  obtain ⟨s0, s1, s2, s3⟩ := (h1.below hb).cells
  simp only [ptrO, Option.map_some] at s0 s2
  have t0 := (h2.below hb).cell
  have q1 : bs ≠ g a := hm.ne_cells (h1.below hb)
  have q2 : bt ≠ g a := hm.ne_cells (h2.below hb)
  have q3 : t ≠ g a := hI'.g_ne_t ha had
  have q4 : f a ≠ g a := hI'.f_ne_g ha ha had
  have q5 : f k ≠ g a := hI'.f_ne_g hkl ha had
  have q6 : (at_ r.L k).f1 = true → g k ≠ g a := fun hd e => hka (hI'.injm k a hkl ha hd had e)
  have hsl := hL.slots k
  have hsm := hL.small
  have htk := takes_bd (hL.data k) (by omega)
  have b0 := hL.bl0
  have b1 := hL.bl1
  have b2 := hL.ino0
  have b3 := hL.ino1
  have hfin : ∀ w1 w2 : World, MapB w1 (g a) (adel kv nm) → Keeps (fun j => j = g a) W w1 → TreeB w2 t (f 0) (r.bl + takes (at_ r.L k)) (r.ino + 1) → Keeps (fun j => j = t) w1 w2 → Did w t f g r (removedRS r a k nm) w2 := fun w1 w2 hm1 hk1 ht2 hk2 => by
    have hK : Keeps (fun j => j = t ∨ ∃ i, i = a ∧ (j = f i ∨ j = g i)) w w2 :=
      ((Keeps.of_below hb).then_ hk1 (fun i e => .inl (.inr ⟨a, rfl, .inr e⟩))).then_ hk2 (fun i e => .inl (.inl e))
    refine did_dirs (fun i => i = a) hI (fun i e => by subst e; exact ⟨ha, had⟩) (fun i hl => ((removed_live r a k nm ha hkl hka i).1 hl).1) ?_ ?_ ht2 hK
    · intro i hl hne
      rw [removed_at r a k nm ha hkl hka, if_neg hne, if_neg ((removed_live r a k nm ha hkl hka i).1 hl).2]
    · rintro i hl rfl
      rw [removed_at r i k nm ha hkl hka, if_pos rfl]
      refine ⟨fun _ => ?_, fun e => by simp only at e; rw [had] at e; cases e⟩
      refine DirAt.mk' ((hn.keeps hk1 q4).keeps hk2 (fun e => hI'.f_ne_t ha e.symm)) ((KidsAt.del hp hm1 hw hnm (hG.names i ha)).of_block (hk2.block _ hm1.lt (fun e => q3 e.symm))) (slotsOf_len (takeS_length _ _).symm)
  have hnode := fun (w1 : World) (hk1 : Keeps (fun j => j = g a) W w1) => (hI'.node k hkl).keeps (f' := f) hk1 (fun j e _ => by subst e; obtain ⟨_, es, c, hh, _⟩ := hm; exact .inr ⟨es, c, hh⟩) q5 q6 (fun _ _ _ => rfl)
  have HF := Lib.hid hfin
  have Hm := Lib.hid hm
  have HT := Lib.hid hI'.tree
  clear hfin hW
  obtain ⟨w1, hrun, hm1, hg1, hs1, _⟩ := run_delete_s (P := Tryz.prog) (w := W.drew) Tryz.underlying83 Tryz.underlying9 (Hm.out.of_block rfl) nm 9 0
  have hk1 : Keeps (fun j => j = g a) W w1 := (((Keeps.refl _ W).drew).grown hg1 (fun j hj => by cases hj; exact .inl rfl))
  go_enter Tryz.func75, Tryz.ntmps75
  go_wp2_with fail
  go_region
  have z1 := hk1.cell s2 q1
  have z2 := hk1.cell t0 q2
  clear s0 s1 s2 s3 t0 n0 n1 n2 n3
  go_wp2_with (go_at_call 76; refine (give_calls t (f 0) (f k) r.bl r.ino (takes (at_ r.L k)) _ (by exact HT.out.keeps hk1 q3) (fun w' hw' => (nblocks_at ((hnode _ hk1).of_heap hw') (hL.data k) (by omega))) (by omega) (by omega) (by omega) (by omega) htk.1 (by omega)).mono ?_; rintro e w2 ⟨rfl, ht2, hk2, hs2⟩)
  go_end0
  exact ⟨rfl, HF.out _ _ hm1 hk1 ht2 hk2⟩
end Go.Proofs.YtmjhflmkgmfjkaaGreatDoor
namespace Go.Proofs.YtmjhflmkgmfjkaaGreatDoor
open Go.RowKit Go.Proofs.YtmjhflmkgmfjkaaGreatDoorW.PrintWords Go.Proofs.YtmjhflmkgmfjkaaGreatDoorW.PrintMore
open PTreeTwins (S58 S106 S35 z58 z106)
theorem KidsAt.perm {w : World} {m : Nat} {s s' : List S106} {f : Nat → Nat} (h : KidsAt w m s f) (hp : ((named s).map (entVal f)).Perm ((named s').map (entVal f))) : KidsAt w m s' f := by
  obtain ⟨kv, hm, hq⟩ := h
  exact ⟨kv, hm, hq.trans hp⟩
theorem whose_take {s : List S106} {o n : ByteArray} {k : Nat} (h : whose s o = some k) (ho : o ≠ ByteArray.empty) (hnd : ((named s).map (·.f0)).Nodup) (hn : whose s n = none) : whose (takeS s o) n = none := by
  unfold whose at *
  rw [named_take h ho hnd]
  have : (named s).find? (fun e => decide (e.f0 = n)) = none := by simpa using hn
  have hx := List.find?_eq_none.1 this
  rw [Option.map_eq_none_iff]
  exact List.find?_eq_none.2 (fun x hx' => hx x (List.mem_filter.1 hx').1)
theorem take_len_lt {s : List S106} {o : ByteArray} {k : Nat} (h : whose s o = some k) (ho : o ≠ ByteArray.empty) (hnd : ((named s).map (·.f0)).Nodup) : (named (takeS s o)).length < (takeS s o).length := by
  rw [named_take h ho hnd, takeS_length]
  obtain ⟨e, he, h1, _⟩ := whose_mem h
  have h2 := named_length_le s
  have : ((named s).filter fun x => decide (x.f0 ≠ o)).length < (named s).length := List.length_filter_lt_length_iff_exists.2 ⟨e, he, by simp [h1]⟩
  omega
/-- a name moved within a directory: taken, and put again -/
theorem move_perm {s : List S106} {o n : ByteArray} {k : Nat} (f : Nat → Nat) (h : whose s o = some k) (ho : o ≠ ByteArray.empty) (hn : n ≠ ByteArray.empty) (hnd : ((named s).map (·.f0)).Nodup) :
    ((named (putS (takeS s o) n ((k : Int) + 1))).map (entVal f)).Perm ((named (moveS s o n)).map (entVal f)) ∧ (putS (takeS s o) n ((k : Int) + 1)).length = (moveS s o n).length := by
  obtain ⟨e, h1, h2, h3⟩ := named_move h ho hn hnd
  constructor
  · refine ((named_put (takeS s o) n ((k : Int) + 1) hn).map _).trans (List.Perm.trans ?_ (h3.map _).symm)
    rw [named_take h ho hnd]
    simp only [List.map_cons, entVal, h1, h2]
    have : eix ⟨n, (k : Int) + 1⟩ = k := by simp [eix]
    rw [this]
  · rw [putS_length, if_pos (take_len_lt h ho hnd), takeS_length, moveS_length]
set_option maxHeartbeats 1000000 in
set_option maxRecDepth 100000 in
theorem moveAct_calls (w : World) (t : Nat) (f g : Nat → Nat) (way : Nat → List ByteArray) (r : RS) (N a td k : Nat) (o n : ByteArray) (lv lv' : Value) (n0 : Option Nat) (more : Int) (y : S58) (hI : ImplAt w t f g r) (hG : Good r.L way) (hL : Lim r N)
    (ha : Live r.L a) (had : (at_ r.L a).f1 = true) (htd : Live r.L td) (htdd : (at_ r.L td).f1 = true) (hw : whose (at_ r.L a).f3 o = some k) (ho : o ≠ ByteArray.empty) (hno : whose (at_ r.L td).f3 n = none) (hn : n ≠ ByteArray.empty)
    (hy : y = if td = a then { at_ r.L a with f3 := takeS (at_ r.L a).f3 o } else at_ r.L td) (hm0 : 0 ≤ more) (hm1 : more ≤ r.bl)
    (bs bd bt bm : Nat) (h1 : SpotB w bs f ⟨some a, o, some k⟩ lv) (h2 : SpotB w bd f ⟨some td, n, n0⟩ lv') (h3 : BoxB w bt (.pointer (some ⟨t, 0, none⟩)) 25) (h4 : BoxB w bm (.int .i64 more) 3) :
    Calls Tryz.prog 81 #[.pointer (some ⟨bs, 0, none⟩), .pointer (some ⟨bd, 0, none⟩), .pointer (some ⟨bt, 0, none⟩), .pointer (some ⟨bm, 0, none⟩)] w fun e w' => e = .returned (.tuple #[]) ∧
      DirAt w' (f td) (g td) { y with f3 := putS y.f3 n ((k : Int) + 1) } f ∧ (td ≠ a → DirAt w' (f a) (g a) { at_ r.L a with f3 := takeS (at_ r.L a).f3 o } f) ∧ TreeB w' t (f 0) (r.bl - more) r.ino ∧
      Keeps (fun j => j = t ∨ ∃ i, (i = a ∨ i = td) ∧ (j = f i ∨ j = g i)) w w' := by
  obtain ⟨hkl, _, hka, _⟩ := kid_ne hG ha hw
  have hnd := hG.names a ha
  obtain ⟨hN, kv, hm, hp⟩ := (hI.node a ha).1 had
  obtain ⟨n0', n1, n2, n3⟩ := hN.cells
  obtain ⟨s0, s1, s2, s3⟩ := h1.cells
  obtain ⟨d0, d1, d2, d3⟩ := h2.cells
  simp only [ptrO, Option.map_some] at s0 s2 d0
  have t0 := h3.cell
  have m0 := h4.cell
  have q1 : bs ≠ g a := hm.ne_cells h1
  have q2 : bd ≠ g a := hm.ne_cells h2
  have q3 : t ≠ g a := hI.g_ne_t ha had
  have q4 : f a ≠ g a := hI.f_ne_g ha ha had
  have q5 : bt ≠ g a := hm.ne_cells h3
  have q6 : bm ≠ g a := hm.ne_cells h4
  have q7 : f td ≠ g a := hI.f_ne_g htd ha had
  have hTD := (hI.node td htd).1 htdd
  have p1 : ¬ (bt = f td ∨ bt = g td) := fun e => e.elim (hTD.node.ne_ty h3 (by decide)) (hTD.kids.ne_cells h3)
  have p2 : ¬ (bm = f td ∨ bm = g td) := fun e => e.elim (hTD.node.ne_ty h4 (by decide)) (hTD.kids.ne_cells h4)
  have p3 : ¬ (t = f td ∨ t = g td) := fun e => e.elim (hI.f_ne_t htd) (hI.g_ne_t htd htdd)
  obtain ⟨w1, hrun, hm1', hg1, hs1, _⟩ := run_delete_s (P := Tryz.prog) (w := w.drew) Tryz.underlying83 Tryz.underlying9 (hm.of_block rfl) o 9 0
  have hk1 : Keeps (fun j => j = g a) w w1 := (((Keeps.refl _ w).drew).grown hg1 (fun j hj => by cases hj; exact .inl rfl))
  have hyno : whose y.f3 n = none := by
    rw [hy]; split
    · rename_i e; exact whose_take hw ho hnd (by rw [← e]; exact hno)
    · exact hno
  have hyl : y.f3.length ≤ N := by
    rw [hy]; split
    · simp only; rw [takeS_length]; exact hL.slots a
    · exact hL.slots td
  have hDa1 : DirAt w1 (f a) (g a) { at_ r.L a with f3 := takeS (at_ r.L a).f3 o } f := DirAt.mk' (hN.keeps hk1 q4) (KidsAt.del hp hm1' hw ho hnd) (slotsOf_len (takeS_length _ _).symm)
  have hDy : DirAt w1 (f td) (g td) y f := by
    rw [hy]; split
    · rename_i e; rw [e]; exact hDa1
    · rename_i e
      obtain ⟨u1, u2⟩ := (hI.node td htd).1 htdd
      exact ⟨u1.keeps hk1 q7, u2.of_block (hk1.block _ u2.lt (fun h => e (hI.injm td a htd ha htdd had h)))⟩
  have hput := put_at hDy hL.small hyl n hn hyno f k (fun _ _ => rfl)
  have hTr := hI.tree.keeps hk1 q3
  have hb1 := hL.bl1
  have hb2 := hL.small
  have v0 := hk1.cell d0 q2
  have v1 := hk1.cell d1 q2
  have v2 := hk1.cell s2 q1
  have v3 := hk1.cell t0 q5
  have v4 := hk1.cell m0 q6
  have HDa := Lib.hid hDa1
  have Hp := Lib.hid hput
  have HT := Lib.hid hTr
  have Hk := Lib.hid hk1
  clear hDa1 hput hTr hDy hy h1 h2 h3 h4
  go_enter Tryz.func81, Tryz.ntmps81
  go_wp2_with fail
  go_region
  clear s0 s1 s2 s3 d0 d1 d2 d3 t0 m0 n0' n1 n2 n3 hrun hk1
  go_wp2_with (go_at_call 68; refine Hp.out.mono ?_; rintro e w2 ⟨rfl, hd2, hk2, hs2⟩)
  have T2 := HT.out.keeps hk2 p3
  have t2 := hk2.cell v3 p1
  have m2 := hk2.cell v4 p2
  obtain ⟨c0', c1', c2'⟩ := T2.cells
  have f1' := T2.frozen 1
  clear v0 v1 v2 v3 v4
  go_region
  all_goals
    go_wp2
    go_end0
    have hK : Keeps (fun j => j = t ∨ ∃ i, (i = a ∨ i = td) ∧ (j = f i ∨ j = g i)) w w2 := (Hk.out.mono (fun j e => .inr ⟨a, .inl rfl, .inr e⟩)).then_ hk2 (fun j e => .inl (.inr ⟨td, .inr rfl, e⟩))
    refine ⟨rfl, ((hd2.other (p := ⟨t, 1, none⟩) (fun e => p3 (.inl e)) (fun e => p3 (.inr e)) _).drew), fun hne => ?_, (TreeB.set1 (w := w2) T2 _), (hK.setCell (p := ⟨t, 1, none⟩) (.inl (.inl rfl)) _).drew⟩
    have z1 : ¬ (f a = f td ∨ f a = g td) := fun e => e.elim (fun e => hne (hI.inj _ _ htd ha e.symm)) (fun e => hI.f_ne_g ha htd htdd e)
    have z2 : ¬ (g a = f td ∨ g a = g td) := fun e => e.elim (fun e => q7 e.symm) (fun e => hne (hI.injm _ _ htd ha htdd had e.symm))
    exact ((DirAt.mk (HDa.out.node.keeps hk2 z1) (HDa.out.kids.of_block (hk2.block _ HDa.out.kids.lt z2))).other (p := ⟨t, 1, none⟩) (hI.f_ne_t ha) q3 _).drew
def movedRS (r : RS) (a td k : Nat) (o n : ByteArray) (more : Int) : RS :=
  if td = a then { r with L := setF3 r.L td (moveS (at_ r.L td).f3 o n) } else
  { r with L := setF3 (setF3 r.L td (putS (at_ r.L td).f3 n ((k : Int) + 1))) a (takeS (at_ (setF3 r.L td (putS (at_ r.L td).f3 n ((k : Int) + 1))) a).f3 o), bl := r.bl - more }
theorem setF3_live (L : List S58) (a : Nat) (s : List S106) (ha : Live L a) (i : Nat) : Live (setF3 L a s) i ↔ Live L i := by
  unfold Live
  rw [at_setF3 L a s (live_lt ha)]
  by_cases h : i = a
  · subst h; simp
  · rw [if_neg h]
theorem acts_move {w : World} {t : Nat} {f g : Nat → Nat} {way : Nat → List ByteArray} {r : RS} {N a td k : Nat} {o n : ByteArray} {lv lv' : Value} {n0 : Option Nat} {more : Int} (hI : ImplAt w t f g r) (hG : Good r.L way) (hL : Lim r N)
    (ha : Live r.L a) (had : (at_ r.L a).f1 = true) (htd : Live r.L td) (htdd : (at_ r.L td).f1 = true) (hw : whose (at_ r.L a).f3 o = some k) (ho : o ≠ ByteArray.empty) (hno : whose (at_ r.L td).f3 n = none) (hn : n ≠ ByteArray.empty)
    (hm0 : 0 ≤ more) (hm1 : more ≤ r.bl) (hmz : td = a → more = 0)
    (bs bd bt bm : Nat) (h1 : SpotB w bs f ⟨some a, o, some k⟩ lv) (h2 : SpotB w bd f ⟨some td, n, n0⟩ lv') (h3 : BoxB w bt (.pointer (some ⟨t, 0, none⟩)) 25) (h4 : BoxB w bm (.int .i64 more) 3) :
    Acts 81 #[.pointer (some ⟨bs, 0, none⟩), .pointer (some ⟨bd, 0, none⟩), .pointer (some ⟨bt, 0, none⟩), .pointer (some ⟨bm, 0, none⟩)] w (Did w t f g r (movedRS r a td k o n more)) := by
  refine ⟨enters81, fun nn => ?_⟩
  have hb : Below w.heap.size w (w.drewN nn) := pw_below_drewN (Below.refl _ _) nn
  refine (moveAct_calls (w.drewN nn) t f g way r N a td k o n lv lv' n0 more _ (hI.below hb) hG hL ha had htd htdd hw ho hno hn rfl hm0 hm1 bs bd bt bm (h1.below hb) (h2.below hb) (h3.below hb) (h4.below hb)).mono ?_
  rintro e w2 ⟨he, g1, g2, g3, g4⟩
  refine ⟨he, ?_⟩
  have hK : Keeps (fun j => j = t ∨ ∃ i, (i = a ∨ i = td) ∧ (j = f i ∨ j = g i)) w w2 := ⟨g4.os, g4.tape, g4.output, g4.size, g4.block⟩
  have hla := live_lt ha
  have hltd := live_lt htd
  by_cases hc : td = a
  · subst hc
    have hz := hmz rfl
    rw [if_pos rfl] at g1
    have hR : movedRS r td td k o n more = { r with L := setF3 r.L td (moveS (at_ r.L td).f3 o n) } := if_pos rfl
    rw [hR]
    obtain ⟨pm, pl⟩ := move_perm f hw ho hn (hG.names td htd)
    refine did_dirs (fun i => i = td ∨ i = td) hI (fun i e => by rcases e with rfl | rfl <;> exact ⟨htd, htdd⟩) (fun i hl => (setF3_live _ _ _ htd i).1 hl) ?_ ?_ (by simp only; rw [hz] at g3; simpa using g3) hK
    · intro i hl hne
      simp only
      rw [at_setF3 _ _ _ hltd, if_neg (fun e => hne (.inl e))]
    · intro i hl hi
      have hi' : i = td := by rcases hi with e | e <;> exact e
      subst hi'
      simp only
      rw [at_setF3 _ _ _ hltd, if_pos rfl]
      refine ⟨fun _ => ?_, fun e => by simp only at e; rw [had] at e; cases e⟩
      exact DirAt.mk' g1.node (g1.kids.perm pm) (slotsOf_len pl)
  · rw [if_neg hc] at g1
    have hac : ¬ a = td := fun e => hc e.symm
    have hR : movedRS r a td k o n more = { r with L := setF3 (setF3 r.L td (putS (at_ r.L td).f3 n ((k : Int) + 1))) a (takeS (at_ (setF3 r.L td (putS (at_ r.L td).f3 n ((k : Int) + 1))) a).f3 o), bl := r.bl - more } := if_neg hc
    rw [hR]
    have hlv : ∀ i, Live (setF3 (setF3 r.L td (putS (at_ r.L td).f3 n ((k : Int) + 1))) a (takeS (at_ (setF3 r.L td (putS (at_ r.L td).f3 n ((k : Int) + 1))) a).f3 o)) i ↔ Live r.L i := fun i => (setF3_live _ _ _ ((setF3_live _ _ _ htd a).2 ha) i).trans (setF3_live _ _ _ htd i)
    have hat : ∀ i, at_ (setF3 (setF3 r.L td (putS (at_ r.L td).f3 n ((k : Int) + 1))) a (takeS (at_ (setF3 r.L td (putS (at_ r.L td).f3 n ((k : Int) + 1))) a).f3 o)) i = if i = a then { at_ r.L a with f3 := takeS (at_ r.L a).f3 o } else if i = td then { at_ r.L td with f3 := putS (at_ r.L td).f3 n ((k : Int) + 1) } else at_ r.L i := fun i => by
      rw [at_setF3 _ _ _ (by rw [setF3_length]; exact hla), at_setF3 _ _ _ hltd, at_setF3 _ _ _ hltd, if_neg hac]
    refine did_dirs (fun i => i = a ∨ i = td) hI (fun i e => by rcases e with rfl | rfl; exact ⟨ha, had⟩; exact ⟨htd, htdd⟩) (fun i hl => (hlv i).1 hl) ?_ ?_ g3 hK
    · intro i hl hne
      simp only
      rw [hat, if_neg (fun e => hne (.inl e)), if_neg (fun e => hne (.inr e))]
    · intro i hl hi
      simp only
      rw [hat]
      by_cases hia : i = a
      · subst hia
        rw [if_pos rfl]
        exact ⟨fun _ => g2 hc, fun e => by simp only at e; rw [had] at e; cases e⟩
      · have hi' := hi.resolve_left hia
        subst hi'
        rw [if_neg hia, if_pos rfl]
        exact ⟨fun _ => g1, fun e => by simp only at e; rw [htdd] at e; cases e⟩
end Go.Proofs.YtmjhflmkgmfjkaaGreatDoor
namespace Go.Proofs.YtmjhflmkgmfjkaaGreatDoor
open Go.RowKit Go.Proofs.YtmjhflmkgmfjkaaGreatDoorW.PrintWords Go.Proofs.YtmjhflmkgmfjkaaGreatDoorW.PrintMore
open PTreeTwins (S58 S106 S35 z58 z106)
/-- what replace's act leaves: thing x goes, k takes its place -/
def replacedRS (r : RS) (a td k x : Nat) (o n : ByteArray) : RS :=
  { rFree r x with L := setF3 (setF3 (rFree r x).L td (swapS (at_ (rFree r x).L td).f3 n ((k : Int) + 1))) a (takeS (at_ (setF3 (rFree r x).L td (swapS (at_ (rFree r x).L td).f3 n ((k : Int) + 1))) a).f3 o) }
theorem replaced_at (r : RS) (a td k x : Nat) (o n : ByteArray) (ha : Live r.L a) (htd : Live r.L td) (hx : Live r.L x) (hxa : x ≠ a) (hxt : x ≠ td) (i : Nat) :
    at_ (replacedRS r a td k x o n).L i = if i = a then (if td = a then { at_ r.L a with f3 := takeS (swapS (at_ r.L a).f3 n ((k : Int) + 1)) o } else { at_ r.L a with f3 := takeS (at_ r.L a).f3 o }) else if i = td then { at_ r.L td with f3 := swapS (at_ r.L td).f3 n ((k : Int) + 1) } else if i = x then z58 else at_ r.L i := by
  have h1 := live_lt ha
  have h2 := live_lt htd
  have h3 := live_lt hx
  unfold replacedRS rFree
  simp only
  have e0 : ∀ j, at_ (r.L.set x z58) j = if j = x then z58 else at_ r.L j := at_set _ _ _ h3
  have e1 : ∀ s j, at_ (setF3 (r.L.set x z58) td s) j = if j = td then { at_ r.L td with f3 := s } else if j = x then z58 else at_ r.L j := fun s j => by
    rw [at_setF3 _ _ _ (by simpa using h2), e0, e0, if_neg (show ¬ td = x from fun e => hxt e.symm)]
  rw [at_setF3 _ _ _ (by rw [setF3_length]; simpa using h1), e1, e1, e0, if_neg (show ¬ td = x from fun e => hxt e.symm), if_neg (show ¬ a = x from fun e => hxa e.symm)]
  by_cases hi : i = a
  · rw [if_pos hi, if_pos hi]
    by_cases hc : td = a
    · rw [if_pos hc, if_pos hc.symm, hc]
    · rw [if_neg hc, if_neg (show ¬ a = td from fun e => hc e.symm)]
  · rw [if_neg hi, if_neg hi]
theorem replaced_live (r : RS) (a td k x : Nat) (o n : ByteArray) (ha : Live r.L a) (htd : Live r.L td) (hx : Live r.L x) (hxa : x ≠ a) (hxt : x ≠ td) (i : Nat) : Live (replacedRS r a td k x o n).L i ↔ Live r.L i ∧ i ≠ x := by
  unfold Live
  rw [replaced_at r a td k x o n ha htd hx hxa hxt]
  by_cases h1 : i = a
  · subst h1; rw [if_pos rfl]; split <;> exact ⟨fun h => ⟨h, fun e => hxa e.symm⟩, fun h => h.1⟩
  · rw [if_neg h1]
    by_cases h2 : i = td
    · subst h2; rw [if_pos rfl]; exact ⟨fun h => ⟨h, fun e => hxt e.symm⟩, fun h => h.1⟩
    · rw [if_neg h2]
      by_cases h3 : i = x
      · subst h3; simp [z58]
      · rw [if_neg h3]; simp [h3]
theorem swap_names {s : List S106} {n : ByteArray} {x : Nat} (h : whose s n = some x) (hn : n ≠ ByteArray.empty) (hnd : ((named s).map (·.f0)).Nodup) (i : Int) : (named (swapS s n i)).map (·.f0) = (named s).map (·.f0) := by
  rw [named_swap h hn hnd, List.map_map]
  refine List.map_congr_left (fun e _ => ?_)
  simp only [Function.comp]
  split
  · rename_i h; exact h.symm
  · rfl
theorem whose_swap {s : List S106} {n o : ByteArray} {x k : Nat} (h : whose s n = some x) (hn : n ≠ ByteArray.empty) (hnd : ((named s).map (·.f0)).Nodup) (i : Int) (ho : whose s o = some k) (hne : o ≠ n) : whose (swapS s n i) o = some k := by
  unfold whose at ho ⊢
  rw [named_swap h hn hnd, List.find?_map, Option.map_map]
  have h1 : ((fun e : S106 => decide (e.f0 = o)) ∘ fun x => if x.f0 = n then (⟨n, i⟩ : S106) else x) = fun e => decide (e.f0 = o) := by
    funext e
    simp only [Function.comp]
    split
    · rename_i h; rw [h]
    · rfl
  rw [h1]
  cases hf : (named s).find? (fun e => decide (e.f0 = o)) with
  | none => rw [hf] at ho; cases ho
  | some e =>
    rw [hf] at ho
    have h2 : e.f0 = o := by simpa using List.find?_some hf
    simp only [Option.map_some, Function.comp]
    rw [if_neg (by rw [h2]; exact hne)]
    simpa using ho
set_option maxHeartbeats 1000000 in
set_option maxRecDepth 100000 in
theorem acts_replace {w : World} {t : Nat} {f g : Nat → Nat} {way : Nat → List ByteArray} {r : RS} {N a td k x : Nat} {o n : ByteArray} {lv lv' : Value} (hI : ImplAt w t f g r) (hG : Good r.L way) (hL : Lim r N)
    (ha : Live r.L a) (had : (at_ r.L a).f1 = true) (htd : Live r.L td) (htdd : (at_ r.L td).f1 = true) (hw : whose (at_ r.L a).f3 o = some k) (ho : o ≠ ByteArray.empty) (hwx : whose (at_ r.L td).f3 n = some x) (hn : n ≠ ByteArray.empty) (hxa : x ≠ a) (hkx : td = a → o ≠ n)
    (bs bd bt : Nat) (h1 : SpotB w bs f ⟨some a, o, some k⟩ lv) (h2 : SpotB w bd f ⟨some td, n, some x⟩ lv') (h3 : BoxB w bt (.pointer (some ⟨t, 0, none⟩)) 25) :
    Acts 98 #[.pointer (some ⟨bs, 0, none⟩), .pointer (some ⟨bd, 0, none⟩), .pointer (some ⟨bt, 0, none⟩)] w (Did w t f g r (replacedRS r a td k x o n)) := by
  refine ⟨enters98, fun nn => ?_⟩
  have hb : Below w.heap.size w (w.drewN nn) := pw_below_drewN (Below.refl _ _) nn
  obtain ⟨W, hW⟩ : ∃ W, W = w.drewN nn := ⟨_, rfl⟩
  rw [← hW] at hb ⊢
  obtain ⟨hkl, _, hka, _⟩ := kid_ne hG ha hw
  obtain ⟨hxl, _, hxt, _⟩ := kid_ne hG htd hwx
  have hI' := hI.below hb
  obtain ⟨hNt, kvt, hmt, hpt⟩ := (hI'.node td htd).1 htdd
  obtain ⟨hNa, kva, hma, hpa⟩ := (hI'.node a ha).1 had
  have h1' := h1.below hb
  have h2' := h2.below hb
  have h3' := h3.below hb
  obtain ⟨s0, s1, s2, s3⟩ := h1'.cells
  obtain ⟨d0, d1, d2, d3⟩ := h2'.cells
  simp only [ptrO, Option.map_some] at s0 s2 d0 d2
  have t0 := h3'.cell
  obtain ⟨u0, u1, u2, u3⟩ := hNt.cells
  obtain ⟨n0, n1, n2, n3⟩ := hNa.cells
  have q1 : bs ≠ g a := hma.ne_cells h1'
  have q2 : bd ≠ g a := hma.ne_cells h2'
  have q3 : t ≠ g a := hI'.g_ne_t ha had
  have q4 : f a ≠ g a := hI'.f_ne_g ha ha had
  have q5 : bt ≠ g a := hma.ne_cells h3'
  have q7 : f td ≠ g a := hI'.f_ne_g htd ha had
  have q8 : f x ≠ g a := hI'.f_ne_g hxl ha had
  have q9 : (at_ r.L x).f1 = true → g x ≠ g a := fun hd e => hxa (hI'.injm x a hxl ha hd had e)
  have p1 : bs ≠ g td := hmt.ne_cells h1'
  have p2 : bd ≠ g td := hmt.ne_cells h2'
  have p3 : t ≠ g td := hI'.g_ne_t htd htdd
  have p4 : f td ≠ g td := hI'.f_ne_g htd htd htdd
  have p5 : bt ≠ g td := hmt.ne_cells h3'
  have p7 : f a ≠ g td := hI'.f_ne_g ha htd htdd
  have p8 : f x ≠ g td := hI'.f_ne_g hxl htd htdd
  have p9 : (at_ r.L x).f1 = true → g x ≠ g td := fun hd e => hxt (hI'.injm x td hxl htd hd htdd e)
  -- the first act: kids[name] = k
  obtain ⟨w1, hrun1, hm1, hg1, hs1, _⟩ := run_mapUpdate_s (P := Tryz.prog) (w := W.drew) Tryz.underlying83 Tryz.underlying9 (hmt.of_block rfl) n (.pointer (some ⟨f k, 0, none⟩))
  have hk1 : Keeps (fun j => j = g td) W w1 := (((Keeps.refl _ W).drew).grown hg1 (fun j hj => by cases hj; exact .inl rfl))
  have D1 : DirAt w1 (f td) (g td) { at_ r.L td with f3 := swapS (at_ r.L td).f3 n ((k : Int) + 1) } f := DirAt.mk' (hNt.keeps hk1 p4) (KidsAt.swap hmt.nodup hpt hm1 hwx hn (hG.names td htd)) (slotsOf_len (swapS_length _ _ _).symm)
  -- directory a as it is then
  obtain ⟨y, hy⟩ : ∃ y : S58, y = if td = a then { at_ r.L a with f3 := swapS (at_ r.L a).f3 n ((k : Int) + 1) } else at_ r.L a := ⟨_, rfl⟩
  have Dy : DirAt w1 (f a) (g a) y f := by
    rw [hy]; split
    · rename_i e; subst e; exact D1
    · rename_i e
      exact ⟨hNa.keeps hk1 p7, KidsAt.of_block ⟨kva, hma, hpa⟩ (hk1.block _ hma.lt (fun h => e (hI'.injm td a htd ha htdd had h.symm)))⟩
  have hyw : whose y.f3 o = some k := by
    rw [hy]; split
    · rename_i e; subst e; exact whose_swap hwx hn (hG.names td htd) _ hw (hkx rfl)
    · exact hw
  have hyn : ((named y.f3).map (·.f0)).Nodup := by
    rw [hy]; split
    · rename_i e; subst e; simp only; rw [swap_names hwx hn (hG.names td htd)]; exact hG.names td htd
    · exact hG.names a ha
  obtain ⟨hNy, kvy, hmy, hpy⟩ := Dy
  -- the second: delete
  obtain ⟨w2, hrun2, hm2, hg2, hs2, _⟩ := run_delete_s (P := Tryz.prog) (w := w1.drew) Tryz.underlying83 Tryz.underlying9 (hmy.of_block rfl) o 9 0
  have hk2 : Keeps (fun j => j = g a) w1 w2 := (((Keeps.refl _ w1).drew).grown hg2 (fun j hj => by cases hj; exact .inl rfl))
  have Da : DirAt w2 (f a) (g a) { y with f3 := takeS y.f3 o } f := DirAt.mk' (hNy.keeps hk2 q4) (KidsAt.del hpy hm2 hyw ho hyn) (slotsOf_len (takeS_length _ _).symm)
  have Dt : td ≠ a → DirAt w2 (f td) (g td) { at_ r.L td with f3 := swapS (at_ r.L td).f3 n ((k : Int) + 1) } f := fun e =>
    ⟨D1.node.keeps hk2 q7, D1.kids.of_block (hk2.block _ D1.kids.lt (fun h => e (hI'.injm td a htd ha htdd had h)))⟩
  have hnb : ∀ W', W'.heap = w2.heap → Calls Tryz.prog 71 #[.pointer (some ⟨f x, 0, none⟩)] W' fun e w'' => e = .returned (.int .i64 (takes (at_ r.L x))) ∧ W' = w'' := fun W' hW' => by
    have hsl := hL.slots x
    have hsm := hL.small
    refine nblocks_at ((((hI'.node x hxl).keeps (f' := f) hk1 ?_ p8 p9 (fun _ _ _ => rfl)).keeps (f' := f) hk2 ?_ q8 q9 (fun _ _ _ => rfl)).of_heap hW') (hL.data x) (by omega)
    · intro j e _; subst e; obtain ⟨_, es, c, hh, _⟩ := hmt; exact .inr ⟨es, c, hh⟩
    · intro j e _; subst e; obtain ⟨_, es, c, hh, _⟩ := hmy; exact .inr ⟨es, c, hh⟩
  have hsl := hL.slots x
  have hsm := hL.small
  have htk := takes_bd (hL.data x) (by omega)
  have b0 := hL.bl0
  have b1 := hL.bl1
  have b2 := hL.ino0
  have b3 := hL.ino1
  have hT2 : TreeB w2 t (f 0) r.bl r.ino := (hI'.tree.keeps hk1 p3).keeps hk2 q3
  have hgive := give_calls t (f 0) (f x) r.bl r.ino (takes (at_ r.L x)) w2 hT2 hnb (by omega) (by omega) (by omega) (by omega) htk.1 (by omega)
  -- what the walk needs in w1, w2
  have a0 := hk1.cell s0 p1
  have a1 := hk1.cell s1 p1
  have a2 := hk1.cell n2 p7
  have c0 := hk2.cell (hk1.cell t0 p5) q5
  have c1 := hk2.cell (hk1.cell d2 p2) q2
  have hfin : ∀ w3 : World, TreeB w3 t (f 0) (r.bl + takes (at_ r.L x)) (r.ino + 1) → Keeps (fun j => j = t) w2 w3 → Did w t f g r (replacedRS r a td k x o n) w3 := fun w3 hT3 hk3 => by
    have hK : Keeps (fun j => j = t ∨ ∃ i, (i = a ∨ i = td) ∧ (j = f i ∨ j = g i)) w w3 :=
      (((Keeps.of_below hb).then_ hk1 (fun i e => .inl (.inr ⟨td, .inr rfl, .inr e⟩))).then_ hk2 (fun i e => .inl (.inr ⟨a, .inl rfl, .inr e⟩))).then_ hk3 (fun i e => .inl (.inl e))
    refine did_dirs (fun i => i = a ∨ i = td) hI (fun i e => by rcases e with rfl | rfl; exact ⟨ha, had⟩; exact ⟨htd, htdd⟩) (fun i hl => ((replaced_live r a td k x o n ha htd hxl hxa hxt i).1 hl).1) ?_ ?_ hT3 hK
    · intro i hl hne
      rw [replaced_at r a td k x o n ha htd hxl hxa hxt, if_neg (fun e => hne (.inl e)), if_neg (fun e => hne (.inr e)), if_neg ((replaced_live r a td k x o n ha htd hxl hxa hxt i).1 hl).2]
    · intro i hl hi
      rw [replaced_at r a td k x o n ha htd hxl hxa hxt]
      by_cases hia : i = a
      · subst hia
        rw [if_pos rfl]
        have hDa3 : DirAt w3 (f i) (g i) { y with f3 := takeS y.f3 o } f := ⟨Da.node.keeps hk3 (fun e => hI'.f_ne_t ha e.symm), Da.kids.of_block (hk3.block _ Da.kids.lt (fun e => q3 e.symm))⟩
        rw [hy] at hDa3
        by_cases hc : td = i
        · rw [if_pos hc] at hDa3 ⊢
          exact ⟨fun _ => hDa3, fun e => by simp only at e; rw [had] at e; cases e⟩
        · rw [if_neg hc] at hDa3 ⊢
          exact ⟨fun _ => hDa3, fun e => by simp only at e; rw [had] at e; cases e⟩
      · have hi' := hi.resolve_left hia
        subst hi'
        rw [if_neg hia, if_pos rfl]
        have Dt' := Dt hia
        exact ⟨fun _ => ⟨Dt'.node.keeps hk3 (fun e => hI'.f_ne_t htd e.symm), Dt'.kids.of_block (hk3.block _ Dt'.kids.lt (fun e => p3 e.symm))⟩, fun e => by simp only at e; rw [htdd] at e; cases e⟩
  have HF := Lib.hid hfin
  have HG := Lib.hid hgive
  clear hfin hgive hnb Da Dt D1 hT2 hW
  go_enter Tryz.func98, Tryz.ntmps98
  go_wp2_with fail
  go_region
  go_wp2_with fail
  go_region
  go_wp2_with (go_at_call 76; refine HG.out.mono ?_; rintro e w3 ⟨rfl, ht3, hk3, hs3⟩)
  go_end0
  exact ⟨rfl, HF.out _ ht3 hk3⟩
end Go.Proofs.YtmjhflmkgmfjkaaGreatDoor
namespace Go.Proofs.YtmjhflmkgmfjkaaGreatDoor
open Go.RowKit Go.Proofs.YtmjhflmkgmfjkaaGreatDoorW.PrintWords Go.Proofs.YtmjhflmkgmfjkaaGreatDoorW.PrintMore
open PTreeTwins (S58 S106 S35 z58 z106)
/-- what holds of a spot that find found -/
structure SpotOk (L : List S58) (s : Spot) : Prop where
  up : ∀ a, s.up = some a → Live L a ∧ (at_ L a).f1 = true ∧ whose (at_ L a).f3 s.name = s.n ∧ s.name ≠ ByteArray.empty
  top : s.up = none → s.n = some 0
  live : ∀ k, s.n = some k → Live L k
def iRemove (r : RS) (s : Spot) (dir : Bool) : RS × Int := match s.n with
  | none => (r, 8)
  | some k => if (at_ r.L k).f1 = true then (if dir = false then (r, 10) else match s.up with
      | none => (r, 13)
      | some a => if named (at_ r.L k).f3 = [] then (removedRS r a k s.name, 0) else (r, 13))
    else (if dir = true then (r, 11) else match s.up with
      | none => (r, 13)
      | some a => (removedRS r a k s.name, 0))
theorem run_len_nil (W : World) (ty : TypeId) : (Builtin.len_ #[83] ty #[.map none]).run Tryz.prog W = .ok (.int .i64 0) W := by
  have h := Tryz.underlying83
  simp [Builtin.len_, h, go_sem]
/-- a spot and a tree, boxed -/
theorem boxes_spot {w : World} (f : Nat → Nat) (s : Spot) (lv : Value) (bv : Value) (ty : Nat) :
    BoxB ((w.alloc (.cells #[bv] ty)).alloc (.cells #[ptrO f s.up, .string s.name, ptrO f s.n, lv] 91)) w.heap.size bv ty ∧ SpotB ((w.alloc (.cells #[bv] ty)).alloc (.cells #[ptrO f s.up, .string s.name, ptrO f s.n, lv] 91)) (w.heap.size + 1) f s lv ∧
    Below w.heap.size w ((w.alloc (.cells #[bv] ty)).alloc (.cells #[ptrO f s.up, .string s.name, ptrO f s.n, lv] 91)) := by
  refine ⟨(Below.heap_alloc _ _ _ (by simp)).trans (heap_alloc_new w _), ?_, ((Below.refl _ w).alloc (Nat.le_refl _) _).alloc (by simp) _⟩
  have := heap_alloc_new (w.alloc (.cells #[bv] ty)) (.cells #[ptrO f s.up, .string s.name, ptrO f s.n, lv] 91)
  rw [World.size_alloc] at this; exact this
set_option maxHeartbeats 2000000 in
set_option maxRecDepth 100000 in
theorem remove_calls (w : World) (t : Nat) (f g : Nat → Nat) (way : Nat → List ByteArray) (r : RS) (N : Nat) (hI : ImplAt w t f g r) (hG : Good r.L way) (hL : Lim r N) (s : Spot) (hS : SpotOk r.L s) (A : Option Addr) (ln c : Nat) (dir : Bool) :
    Calls Tryz.prog 40 #[.pointer (some ⟨t, 0, none⟩), spotVal f s (.slice A ln c), .bool dir] w (PlanPost w t f g r (iRemove r s dir)) := by
  obtain ⟨hbt, hsp, hB⟩ := boxes_spot (w := w) f s (.slice A ln c) (.pointer (some ⟨t, 0, none⟩)) 25
  obtain ⟨c0, c1, c2⟩ := hI.tree.cells
  have hlt : t < w.heap.size := World.block_lt_of_cell? w _ c0
  obtain ⟨up, nm, sn⟩ := s
  cases sn with
  | none =>
    simp only [spotVal, ptrO, Option.map_none] at hbt hsp hB ⊢
    obtain ⟨pu, hpu⟩ : ∃ pu, pu = up.map fun i => (⟨f i, 0, none⟩ : Addr) := ⟨_, rfl⟩
    rw [← hpu] at hbt hB ⊢
    clear hpu hsp
    go_enter Tryz.func40, Tryz.ntmps40
    go_wp2
    go_ret2
    exact PlanPost.bad rfl (by decide) hB
  | some k =>
    have hk : Live r.L k := hS.live k rfl
    have hnode := (hI.node k hk).below hB
    have hflt := hI.f_lt hk
    have hfl1 : ¬ f k = w.heap.size := by omega
    have hfl2 : ¬ f k = w.heap.size + 1 := by omega
    have hfl3 : f k < w.heap.size + 1 := by omega
    have kd := (hI.node k hk).dir
    cases hd : (at_ r.L k).f1 with
    | true =>
      rw [hd] at kd
      cases dir with
      | false =>
        have Hd := Lib.hid hd
        simp only [spotVal, ptrO, Option.map_some] at hbt hsp hB ⊢
        obtain ⟨pu, hpu⟩ : ∃ pu, pu = up.map fun i => (⟨f i, 0, none⟩ : Addr) := ⟨_, rfl⟩
        rw [← hpu] at hbt hB ⊢
        clear hpu hsp hd
        go_enter Tryz.func40, Tryz.ntmps40
        go_wp2
        go_ret2
        exact PlanPost.bad (by simp [iRemove, Hd.out]) (by decide) hB
      | true =>
        cases up with
        | none =>
          have Hd := Lib.hid hd
          simp only [spotVal, ptrO, Option.map_some, Option.map_none] at hbt hsp hB ⊢
          clear hsp hd
          go_enter Tryz.func40, Tryz.ntmps40
          go_wp2
          go_ret2
          exact PlanPost.bad (by simp [iRemove, Hd.out]) (by decide) hB
        | some a =>
          obtain ⟨ha, had, hw, hnm⟩ := hS.up a rfl
          obtain ⟨hn, kv, hm, hp⟩ := (hI.node k hk).1 hd
          obtain ⟨n0, n1, n2, n3⟩ := hn.cells
          have hlen : kv.length = (named (at_ r.L k).f3).length := by simpa using hp.length_eq
          have hm2 := hm.of_block (hB.block _ hm.lt)
          simp only [spotVal, ptrO, Option.map_some, Option.map_none] at hbt hsp hB hm2 ⊢
          have hll := run_len_s (P := Tryz.prog) Tryz.underlying83 hm2 3
          have hcap : kv.length ≤ 2000 := by
            have h1 := named_length_le (at_ r.L k).f3
            have h2 := hL.slots k
            have h3 := hL.small
            omega
          have Hd := Lib.hid hd
          have Hl := Lib.hid hlen
          have Had := Lib.hid had
          have Hw := Lib.hid hw
          have Hsp := Lib.hid hsp
          have Hbt := Lib.hid hbt
          clear hd hlen had hw hsp hbt hp hm hm2
          by_cases hz : kv.length = 0
          · have hz2 : decide ((0 : Int) < (kv.length : Int)) = false := by simp [hz]
            have hz3 : decide (0 < kv.length) = false := by simp [hz]
            have hz4 : ¬ 0 < kv.length := by omega
            have Hz := Lib.hid hz
            clear hz
            go_enter Tryz.func40, Tryz.ntmps40
            go_wp2
            go_ret2
            have hres : iRemove r ⟨some a, nm, some k⟩ true = (removedRS r a k nm, 0) := by
              simp only [iRemove]
              rw [if_pos Hd.out, if_neg (by decide), if_pos (List.eq_nil_of_length_eq_zero (by rw [← Hl.out]; exact Hz.out))]
            refine ⟨_, by rw [hres]; rfl, hB, fun _ => ⟨_, _, rfl, ?_⟩⟩
            rw [hres]
            exact acts_remove (hI.below hB) hG hL ha Had.out Hw.out hnm _ _ Hsp.out Hbt.out
          · have hz2 : decide ((0 : Int) < (kv.length : Int)) = true := by simp; omega
            have hz3 : decide (0 < kv.length) = true := by simp; omega
            have hz4 : 0 < kv.length := by omega
            have Hz := Lib.hid hz
            clear hz
            go_enter Tryz.func40, Tryz.ntmps40
            go_wp2
            go_ret2
            have hres : iRemove r ⟨some a, nm, some k⟩ true = (r, 13) := by
              simp only [iRemove]
              rw [if_pos Hd.out, if_neg (by decide), if_neg (fun e => Hz.out (by rw [Hl.out, e]; rfl))]
            exact PlanPost.bad (by rw [hres]) (by decide) hB
    | false =>
      rw [hd] at kd
      cases dir with
      | true =>
        have Hd := Lib.hid hd
        simp only [spotVal, ptrO, Option.map_some] at hbt hsp hB ⊢
        obtain ⟨pu, hpu⟩ : ∃ pu, pu = up.map fun i => (⟨f i, 0, none⟩ : Addr) := ⟨_, rfl⟩
        rw [← hpu] at hbt hB ⊢
        clear hpu hsp hd
        go_enter Tryz.func40, Tryz.ntmps40
        go_wp2
        go_ret2
        exact PlanPost.bad (by simp [iRemove, Hd.out]) (by decide) hB
      | false =>
        cases up with
        | none =>
          have h0 := hS.top rfl
          injection h0 with h0
          rw [h0, hG.root.2.1] at hd
          cases hd
        | some a =>
          obtain ⟨ha, had, hw, hnm⟩ := hS.up a rfl
          simp only [spotVal, ptrO, Option.map_some, Option.map_none] at hbt hsp hB ⊢
          have Hd := Lib.hid hd
          have Had := Lib.hid had
          have Hw := Lib.hid hw
          have Hsp := Lib.hid hsp
          have Hbt := Lib.hid hbt
          clear hd had hw hsp hbt
          go_enter Tryz.func40, Tryz.ntmps40
          go_wp2
          go_ret2
          have hres : iRemove r ⟨some a, nm, some k⟩ false = (removedRS r a k nm, 0) := by
            simp [iRemove, Hd.out]
          refine ⟨_, by rw [hres]; rfl, hB, fun _ => ⟨_, _, rfl, ?_⟩⟩
          rw [hres]
          exact acts_remove (hI.below hB) hG hL ha Had.out Hw.out hnm _ _ Hsp.out Hbt.out
end Go.Proofs.YtmjhflmkgmfjkaaGreatDoor
namespace Go.Proofs.YtmjhflmkgmfjkaaGreatDoor
open Go.RowKit Go.Proofs.YtmjhflmkgmfjkaaGreatDoorW.PrintWords Go.Proofs.YtmjhflmkgmfjkaaGreatDoorW.PrintMore
open PTreeTwins (S58 S106 S35 z58 z106)
theorem ba_toList (a b : ByteArray) : (a.toList = b.toList) = (a = b) := by
  apply propext
  constructor
  · intro h
    rw [ByteArray.toList_eq, ByteArray.toList_eq] at h
    exact ByteArray.ext (Array.toList_inj.1 h)
  · intro h; rw [h]
theorem wrap_in (n : Int) (h0 : 0 ≤ n) (h1 : n ≤ 9223372036854775807) : wrap64 n = n := by unfold wrap64; omega
theorem eq_l0 (x0 x1 : List ByteArray) (hl : x0.length = x1.length) (hb : x0.length ≤ 9223372036854775807) : ∀ (d k i : Nat), i + d = x0.length → d < k → PTreeTwins.slices_Equal_string_string.l0 k x0 x1 (x0.length : Int) (i : Int) = some (decide (x0.drop i = x1.drop i))
  | d, 0, i, _, h => by omega
  | d, k + 1, i, hi, hk => by
    unfold PTreeTwins.slices_Equal_string_string.l0
    cases d with
    | zero =>
      rw [if_neg (by omega)]
      have e0 : x0.drop i = [] := List.drop_eq_nil_of_le (by omega)
      have e1 : x1.drop i = [] := List.drop_eq_nil_of_le (by omega)
      rw [e0, e1]; simp
    | succ d =>
      have h0 : i < x0.length := by omega
      have h1 : i < x1.length := by omega
      rw [if_pos (by omega), if_pos (by omega), if_pos (by omega), if_pos (by omega)]
      have r0 : rdOf ByteArray.empty x0 (i : Int) = x0[i] := by simp [rdOf, h0]
      have r1 : rdOf ByteArray.empty x1 (i : Int) = x1[i] := by simp [rdOf, h1]
      rw [r0, r1, wrap_in _ (by omega) (by omega)]
      have hdec : (x0.drop i = x1.drop i) ↔ (x0[i] = x1[i] ∧ x0.drop (i + 1) = x1.drop (i + 1)) := by
        rw [List.drop_eq_getElem_cons h0, List.drop_eq_getElem_cons h1]
        exact (List.cons.injEq _ _ _ _).to_iff
      by_cases he : x0[i] = x1[i]
      · rw [if_pos (by rw [he])]
        have := eq_l0 x0 x1 hl hb d k (i + 1) (by omega) (by omega)
        rw [show ((i : Int) + 1) = ((i + 1 : Nat) : Int) from by omega, this]
        exact congrArg some (decide_eq_decide.2 (by rw [hdec]; exact ⟨fun h => ⟨he, h⟩, fun h => h.2⟩))
      · rw [if_neg (fun h => he (by rw [ba_toList] at h; exact h))]
        exact congrArg some (decide_eq_false (fun h => he (hdec.1 h).1)).symm
theorem eq_f (x0 x1 : List ByteArray) (hb : x0.length ≤ 9223372036854775807) : PTreeTwins.slices_Equal_string_string.f (x0.length + 1) x0 x1 = some (decide (x0 = x1)) := by
  unfold PTreeTwins.slices_Equal_string_string.f
  by_cases hl : x0.length = x1.length
  · rw [if_pos (by omega)]
    have := eq_l0 x0 x1 hl hb x0.length (x0.length + 1) 0 (by omega) (by omega)
    simpa using this
  · rw [if_neg (by omega)]
    have : ¬ x0 = x1 := fun e => hl (by rw [e])
    simp [this]
theorem equal_calls (A0 : Option Addr) (c0 : Nat) (l : List ByteArray) (A1 : Option Addr) (c1 : Nat) (m : List ByteArray) (w : World) (h0 : Kd.C Kd.string w A0 l.length l) (hc0 : l.length ≤ c0) (h1 : Kd.C Kd.string w A1 m.length m) (hc1 : m.length ≤ c1) :
    Calls Tryz.prog 78 #[.slice A0 l.length c0, .slice A1 m.length c1] w fun e w' => e = .returned (.bool (decide (l = m))) ∧ ∃ n, w' = w.drewN n :=
  (PTreeTwins.slices_Equal_string_string.calls (l.length + 1) A0 c0 l A1 c1 m _ w h0 hc0 h1 hc1 (eq_f l m (Kd.C_max h0))).mono (fun e w' h => ⟨h.1, h.2.out⟩)
/-- below -/
theorem below_calls (A0 : Option Addr) (c0 : Nat) (l : List ByteArray) (A1 : Option Addr) (c1 : Nat) (m : List ByteArray) (w : World) (h0 : Kd.C Kd.string w A0 l.length l) (hc0 : l.length ≤ c0) (h1 : Kd.C Kd.string w A1 m.length m) (hc1 : m.length ≤ c1) :
    Calls Tryz.prog 77 #[.slice A0 l.length c0, .slice A1 m.length c1] w fun e w' => e = .returned (.bool (decide (l.length < m.length ∧ l = m.take l.length))) ∧ ∃ n, w' = w.drewN n := by
  have x0 := Kd.C_max h0
  have x1 := Kd.C_max h1
  by_cases hlt : l.length < m.length
  · have d1 : decide ((l.length : Int) < (m.length : Int)) = true := by simp; omega
    have d2 : decide (l.length < m.length) = true := by simp; omega
    have hC := Kd.C_take h1 (show l.length ≤ m.length by omega)
    have hlen : (m.take l.length).length = l.length := by rw [List.length_take]; omega
    have heq := equal_calls A0 c0 l A1 c1 (m.take l.length) w h0 hc0 hC (by omega)
    rw [hlen] at heq
    have Hlt := Lib.hid hlt
    have He := Lib.hid heq
    have hle : l.length ≤ c1 := by omega
    clear heq hC h0 h1
    go_enter Tryz.func77, Tryz.ntmps77
    go_wp2_with (go_at_call 78; refine He.out.mono ?_; rintro e w' ⟨rfl, n, rfl⟩)
    go_ret
    exact ⟨by simp [Hlt.out], n, rfl⟩
  · have d1 : decide ((l.length : Int) < (m.length : Int)) = false := by simp; omega
    have d2 : decide (l.length < m.length) = false := by simp; omega
    have Hlt := Lib.hid hlt
    clear hlt h0 h1
    go_enter Tryz.func77, Tryz.ntmps77
    go_wp2
    go_ret
    exact ⟨by simp [Hlt.out], 0, rfl⟩
theorem SpotOk.root {L : List S58} {way : Nat → List ByteArray} (hG : Good L way) : SpotOk L ⟨none, ByteArray.empty, some 0⟩ :=
  ⟨(fun a h => by cases h), fun _ => rfl, (fun k h => by cases h; exact hG.root.1)⟩
theorem findL_ok {L : List S58} {way : Nat → List ByteArray} (hG : Good L way) : ∀ (l : List ByteArray) (s : Spot), (∀ n ∈ l, n ≠ ByteArray.empty) → SpotOk L s → (findL L l s).2 = 0 → SpotOk L (findL L l s).1
  | [], s, _, h, _ => h
  | n :: l, s, hn, h, h0 => by
    unfold findL at h0 ⊢
    cases hs : s.n with
    | none => rw [hs] at h0; simp at h0
    | some i =>
      rw [hs] at h0
      simp only at h0 ⊢
      by_cases hd : (at_ L i).f1 = true
      · rw [if_pos hd] at h0 ⊢
        have hi := h.live i hs
        exact findL_ok hG l _ (fun x hx => hn x (List.mem_cons_of_mem _ hx)) ⟨(fun a ha => by cases ha; exact ⟨hi, hd, rfl, hn n List.mem_cons_self⟩), (fun e => by cases e), fun k hk => whose_live hG hi hk⟩ h0
      · rw [if_neg hd] at h0
        simp at h0
theorem findL_way {L : List S58} {way : Nat → List ByteArray} (hG : Good L way) : ∀ (l : List ByteArray) (s : Spot) (p : List ByteArray), (∀ i, s.n = some i → Live L i ∧ way i = p) → (findL L l s).2 = 0 → ∀ k, (findL L l s).1.n = some k → Live L k ∧ way k = p ++ l
  | [], s, p, h, _, k, hk => by rw [List.append_nil]; exact h k hk
  | n :: l, s, p, h, h0, k, hk => by
    unfold findL at h0 hk
    cases hs : s.n with
    | none => rw [hs] at h0; simp at h0
    | some i =>
      rw [hs] at h0 hk
      simp only at h0 hk
      obtain ⟨hi, hp⟩ := h i hs
      by_cases hd : (at_ L i).f1 = true
      · rw [if_pos hd] at h0 hk
        have := findL_way hG l _ (p ++ [n]) (fun j hj => by
          obtain ⟨hj1, hj2, _⟩ := kid_ne hG hi hj
          exact ⟨hj1, by rw [hj2, hp]⟩) h0 k hk
        rw [List.append_assoc] at this
        exact this
      · rw [if_neg hd] at h0
        simp at h0
def iReplace (r : RS) (a td k x : Nat) (o n : ByteArray) : RS × Int := if rOver r.L k x ≠ 0 then (r, rOver r.L k x) else (replacedRS r a td k x o n, 0)
set_option maxHeartbeats 2000000 in
set_option maxRecDepth 100000 in
theorem replace_calls (w : World) (t : Nat) (f g : Nat → Nat) (way : Nat → List ByteArray) (r : RS) (N : Nat) (hI : ImplAt w t f g r) (hG : Good r.L way) (hL : Lim r N) (a td k x : Nat) (o n : ByteArray) (hS : SpotOk r.L ⟨some a, o, some k⟩) (hD : SpotOk r.L ⟨some td, n, some x⟩) (hne : td = a → o ≠ n)
    (A : Option Addr) (ln c : Nat) (A' : Option Addr) (ln' c' : Nat) :
    Calls Tryz.prog 80 #[.pointer (some ⟨t, 0, none⟩), spotVal f ⟨some a, o, some k⟩ (.slice A ln c), spotVal f ⟨some td, n, some x⟩ (.slice A' ln' c')] w (PlanPost w t f g r (iReplace r a td k x o n)) := by
  obtain ⟨ha, had, hw, ho⟩ := hS.up a rfl
  obtain ⟨htd, htdd, hwx, hn⟩ := hD.up td rfl
  simp only at hw hwx ho hn
  have hk : Live r.L k := hS.live k rfl
  have hx : Live r.L x := hD.live x rfl
  obtain ⟨hbt, hsp, hB2⟩ := boxes_spot (w := w) f ⟨some a, o, some k⟩ (.slice A ln c) (.pointer (some ⟨t, 0, none⟩)) 25
  have hB : Below w.heap.size w (((w.alloc (.cells #[.pointer (some ⟨t, 0, none⟩)] 25)).alloc (.cells #[.pointer (some ⟨f a, 0, none⟩), .string o, .pointer (some ⟨f k, 0, none⟩), .slice A ln c] 91)).alloc (.cells #[.pointer (some ⟨f td, 0, none⟩), .string n, .pointer (some ⟨f x, 0, none⟩), .slice A' ln' c'] 91)) := (((Below.refl _ w).alloc (Nat.le_refl _) _).alloc (by simp) _).alloc (by simp; omega) _
  have hbt3 : BoxB (((w.alloc (.cells #[.pointer (some ⟨t, 0, none⟩)] 25)).alloc (.cells #[.pointer (some ⟨f a, 0, none⟩), .string o, .pointer (some ⟨f k, 0, none⟩), .slice A ln c] 91)).alloc (.cells #[.pointer (some ⟨f td, 0, none⟩), .string n, .pointer (some ⟨f x, 0, none⟩), .slice A' ln' c'] 91)) w.heap.size (.pointer (some ⟨t, 0, none⟩)) 25 := (Below.heap_alloc _ _ _ (by simp; omega)).trans hbt
  have hsp3 : SpotB (((w.alloc (.cells #[.pointer (some ⟨t, 0, none⟩)] 25)).alloc (.cells #[.pointer (some ⟨f a, 0, none⟩), .string o, .pointer (some ⟨f k, 0, none⟩), .slice A ln c] 91)).alloc (.cells #[.pointer (some ⟨f td, 0, none⟩), .string n, .pointer (some ⟨f x, 0, none⟩), .slice A' ln' c'] 91)) (w.heap.size + 1) f ⟨some a, o, some k⟩ (.slice A ln c) := (Below.heap_alloc _ _ _ (by simp)).trans hsp
  have hdp3 : SpotB (((w.alloc (.cells #[.pointer (some ⟨t, 0, none⟩)] 25)).alloc (.cells #[.pointer (some ⟨f a, 0, none⟩), .string o, .pointer (some ⟨f k, 0, none⟩), .slice A ln c] 91)).alloc (.cells #[.pointer (some ⟨f td, 0, none⟩), .string n, .pointer (some ⟨f x, 0, none⟩), .slice A' ln' c'] 91)) (w.heap.size + 1 + 1) f ⟨some td, n, some x⟩ (.slice A' ln' c') := by
    have := heap_alloc_new ((w.alloc (.cells #[.pointer (some ⟨t, 0, none⟩)] 25)).alloc (.cells #[.pointer (some ⟨f a, 0, none⟩), .string o, .pointer (some ⟨f k, 0, none⟩), .slice A ln c] 91)) (.cells #[.pointer (some ⟨f td, 0, none⟩), .string n, .pointer (some ⟨f x, 0, none⟩), .slice A' ln' c'] 91)
    rw [World.size_alloc, World.size_alloc] at this; exact this
  simp only [spotVal, ptrO, Option.map_some]
  have kd := (hI.node k hk).dir
  have xd := (hI.node x hx).dir
  have hfk := hI.f_lt hk
  have hfx := hI.f_lt hx
  have l1 : ¬ f k = w.heap.size := by omega
  have l2 : ¬ f k = w.heap.size + 1 := by omega
  have l3 : f k < w.heap.size + 1 := by omega
  have l4 : ¬ f k = w.heap.size + 1 + 1 := by omega
  have l5 : f k < w.heap.size + 1 + 1 := by omega
  have m1 : ¬ f x = w.heap.size := by omega
  have m2 : ¬ f x = w.heap.size + 1 := by omega
  have m3 : f x < w.heap.size + 1 := by omega
  have m4 : ¬ f x = w.heap.size + 1 + 1 := by omega
  have m5 : f x < w.heap.size + 1 + 1 := by omega
  have Hn := Lib.hid hne
  have fin : x ≠ a → iReplace r a td k x o n = (replacedRS r a td k x o n, 0) → ∀ cl, cl = Value.func (.func 98) #[] #[.pointer (some ⟨w.heap.size + 1, 0, none⟩), .pointer (some ⟨w.heap.size + 1 + 1, 0, none⟩), .pointer (some ⟨w.heap.size, 0, none⟩)] → PlanPost w t f g r (iReplace r a td k x o n) (.returned (.tuple #[cl, .int .i64 0])) (((w.alloc (.cells #[.pointer (some ⟨t, 0, none⟩)] 25)).alloc (.cells #[.pointer (some ⟨f a, 0, none⟩), .string o, .pointer (some ⟨f k, 0, none⟩), .slice A ln c] 91)).alloc (.cells #[.pointer (some ⟨f td, 0, none⟩), .string n, .pointer (some ⟨f x, 0, none⟩), .slice A' ln' c'] 91)) := fun hxa hres cl hcl => by
    rw [hres, hcl]
    exact ⟨_, rfl, hB, fun _ => ⟨_, _, rfl, acts_replace (hI.below hB) hG hL ha had htd htdd hw ho hwx hn hxa hne _ _ _ hsp3 hdp3 hbt3⟩⟩
  have Fin := Lib.hid fin
  clear fin hne hw hwx hbt hsp hbt3 hsp3 hdp3 hB2
  cases hkd : (at_ r.L k).f1 <;> cases hxd : (at_ r.L x).f1 <;> rw [hkd] at kd <;> rw [hxd] at xd
  · -- both files
    obtain ⟨v, hnx, _⟩ := (hI.node x hx).2 hxd
    obtain ⟨x0, x1, x2, x3⟩ := hnx.cells
    have hll := fun W => run_len_nil W 3
    have Hk := Lib.hid hkd
    have Hx := Lib.hid hxd
    have hxa : Hid (x ≠ a) := Lib.hid (fun e => by rw [e, had] at hxd; cases hxd)
    clear hkd hxd had
    go_enter Tryz.func80, Tryz.ntmps80
    go_wp2
    go_ret2
    exact Fin.out hxa.out (by have e1 := Hk.out; have e2 := Hx.out; simp [iReplace, rOver, e1, e2]) _ rfl
  · have Hk := Lib.hid hkd
    have Hx := Lib.hid hxd
    clear hkd hxd had
    go_enter Tryz.func80, Tryz.ntmps80
    go_wp2
    go_ret2
    exact PlanPost.bad (by have e1 := Hk.out; have e2 := Hx.out; simp [iReplace, rOver, e1, e2]) (by decide) hB
  · have Hk := Lib.hid hkd
    have Hx := Lib.hid hxd
    clear hkd hxd had
    go_enter Tryz.func80, Tryz.ntmps80
    go_wp2
    go_ret2
    exact PlanPost.bad (by have e1 := Hk.out; have e2 := Hx.out; simp [iReplace, rOver, e1, e2]) (by decide) hB
  · obtain ⟨hnx, kv, hm, hp⟩ := (hI.node x hx).1 hxd
    obtain ⟨x0, x1, x2, x3⟩ := hnx.cells
    have hlen : kv.length = (named (at_ r.L x).f3).length := by simpa using hp.length_eq
    have hll := run_len_s (P := Tryz.prog) Tryz.underlying83 (hm.of_block (hB.block _ hm.lt)) 3
    have hcap : kv.length ≤ 2000 := by
      have h1 := named_length_le (at_ r.L x).f3
      have h2 := hL.slots x
      have h3 := hL.small
      omega
    have hxa' : named (at_ r.L x).f3 = [] → x ≠ a := fun h e => by
      have := hS.up a rfl
      obtain ⟨e', he', _⟩ := whose_mem this.2.2.1
      rw [← e, h] at he'
      cases he'
    have Hxa := Lib.hid hxa'
    have Hk := Lib.hid hkd
    have Hx := Lib.hid hxd
    have Hl := Lib.hid hlen
    clear hkd hxd had hxa' hp hm hlen
    by_cases hz : kv.length = 0
    · have hz2 : decide ((0 : Int) < (kv.length : Int)) = false := by simp [hz]
      have hz3 : decide (0 < kv.length) = false := by simp [hz]
      have hz4 : ¬ 0 < kv.length := by omega
      have Hz : Hid (named (at_ r.L x).f3 = []) := Lib.hid (List.eq_nil_of_length_eq_zero (by rw [← Hl.out]; exact hz))
      clear hz
      go_enter Tryz.func80, Tryz.ntmps80
      go_wp2
      go_ret2
      exact Fin.out (Hxa.out Hz.out) (by have e1 := Hk.out; have e2 := Hx.out; have e3 := Hz.out; simp [iReplace, rOver, e1, e2, e3]) _ rfl
    · have hz2 : decide ((0 : Int) < (kv.length : Int)) = true := by simp; omega
      have hz3 : decide (0 < kv.length) = true := by simp; omega
      have hz4 : 0 < kv.length := by omega
      have Hz : Hid (named (at_ r.L x).f3 ≠ []) := Lib.hid (fun e => hz (by rw [Hl.out, e]; rfl))
      clear hz
      go_enter Tryz.func80, Tryz.ntmps80
      go_wp2
      go_ret2
      exact PlanPost.bad (by have e1 := Hk.out; have e2 := Hx.out; have e3 := Hz.out; simp [iReplace, rOver, e1, e2, e3]) (by decide) hB
end Go.Proofs.YtmjhflmkgmfjkaaGreatDoor
