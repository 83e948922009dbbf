/- A part of the proof: J6. -/
import Derived.Test.YtmjhflmkgmfjkaaGreatDoorAe
import Derived.LaidEqlPtr
set_option linter.unusedVariables false
set_option linter.unusedSimpArgs false
namespace Go.Proofs.YtmjhflmkgmfjkaaGreatDoor
open Go.RowKit Go.Proofs.YtmjhflmkgmfjkaaGreatDoorW.PrintWords Go.Proofs.YtmjhflmkgmfjkaaGreatDoorW.PrintMore
open PTreeTwins (S58 S106 S35 z58 z106)
def below (l m : List ByteArray) : Prop := l.length < m.length ∧ l = m.take l.length
instance (l m : List ByteArray) : Decidable (below l m) := by unfold below; infer_instance
/-- how much a directory grows by a name -/
def moreOf (r : RS) (a td : Nat) : Int := if td = a then 0 else growsOf (named (at_ r.L td).f3).length (slotsOf (at_ r.L td).f3)
def iMove (r : RS) (s : Spot) (l m : List ByteArray) : RS × Int := match s.n with
  | none => (r, 8)
  | some k => match s.up with
    | none => (r, 13)
    | some a => if m = [] then (r, 13) else
      if (findL r.L m ⟨none, ByteArray.empty, some 0⟩).2 ≠ 0 then (r, (findL r.L m ⟨none, ByteArray.empty, some 0⟩).2) else
      if below l m then (r, 13) else if l = m then (r, 0) else
      match (findL r.L m ⟨none, ByteArray.empty, some 0⟩).1.up with
      | none => (r, 13)
      | some td => match (findL r.L m ⟨none, ByteArray.empty, some 0⟩).1.n with
        | some x => iReplace r a td k x s.name (findL r.L m ⟨none, ByteArray.empty, some 0⟩).1.name
        | none => if moreOf r a td > r.bl then (r, 7) else (movedRS r a td k s.name (findL r.L m ⟨none, ByteArray.empty, some 0⟩).1.name (moreOf r a td), 0)
theorem info52 : (Tryz.prog.info? 85).map (·.size) = some 4 := by kernel_rfl
theorem run_neq_ptr_same (W : World) (a : Addr) : (binOp .neq 52 (.pointer (some a)) (.pointer (some a))).run Tryz.prog W = .ok (.bool false) W := by
  obtain ⟨j, hj, hjs⟩ := Option.map_eq_some_iff.1 info52
  have h : ∀ d : Nat, (Op.equalIn (d + 1) 52 (.pointer (some a)) (.pointer (some a))).run Tryz.prog W = .ok true W := fun d => by
    simp [Op.equalIn, run_underlying Tryz.underlying52, sizeOf, typeInfo, hj, run_sameAddr_same]
  simp only [binOp]
  simp [Op.equal, Op.maxDepth, h 9999]
theorem run_neq_ptr_other (W : World) {a b : Addr} {ca cb : Array Value} {ta tb : TypeId} (hne : a ≠ b) (ha : W.heap[a.block]? = some (.cells ca ta (0, 0))) (hb : W.heap[b.block]? = some (.cells cb tb (0, 0))) :
    (binOp .neq 52 (.pointer (some a)) (.pointer (some b))).run Tryz.prog W = .ok (.bool true) W := by
  obtain ⟨j, hj, hjs⟩ := Option.map_eq_some_iff.1 info52
  have h : ∀ d : Nat, (Op.equalIn (d + 1) 52 (.pointer (some a)) (.pointer (some b))).run Tryz.prog W = .ok false W := fun d => by
    simp [Op.equalIn, run_underlying Tryz.underlying52, sizeOf, typeInfo, hj, hjs, run_sameAddr_other W hne ha hb]
  simp only [binOp]
  simp [Op.equal, Op.maxDepth, h 9999]
theorem BoxB.set {w : World} {b ty : Nat} {v : Value} (h : BoxB w b v ty) (v' : Value) : BoxB (w.setCell ⟨b, 0, none⟩ v') b v' ty := by
  unfold BoxB at *
  simp [World.setCell, Array.getElem?_modify, h]
theorem move_boxes {w1 : World} {f : Nat → Nat} {B : Nat} {s d : Spot} {lv lv' tv v : Value} (hsp : SpotB w1 (B + 1) f s lv) (hbt : BoxB w1 B tv 25) (n q : Nat) (dv : Array Value) (hdv : dv = #[ptrO f d.up, .string d.name, ptrO f d.n, lv']) :
    SpotB ((((w1.alloc (.cells dv 91)).drewN n).alloc (.cells #[v] 3)).drewN q) (B + 1) f s lv ∧ SpotB ((((w1.alloc (.cells dv 91)).drewN n).alloc (.cells #[v] 3)).drewN q) w1.heap.size f d lv' ∧
    BoxB ((((w1.alloc (.cells dv 91)).drewN n).alloc (.cells #[v] 3)).drewN q) B tv 25 ∧ BoxB ((((w1.alloc (.cells dv 91)).drewN n).alloc (.cells #[v] 3)).drewN q) (w1.heap.size + 1) v 3 := by
  have h1 : Below w1.heap.size w1 ((((w1.alloc (.cells dv 91)).drewN n).alloc (.cells #[v] 3)).drewN q) := pw_below_drewN ((pw_below_drewN ((Below.refl _ w1).alloc (Nat.le_refl _) _) n).alloc (by simp) _) q
  refine ⟨hsp.below h1, ?_, hbt.below h1, ?_⟩
  · have h2 := heap_alloc_new w1 (.cells dv 91)
    rw [hdv] at h2 ⊢
    exact (Below.heap_alloc _ _ _ (by simp)).trans h2
  · have h2 := heap_alloc_new ((w1.alloc (.cells dv 91)).drewN n) (.cells #[v] 3)
    have hz : ((w1.alloc (.cells dv 91)).drewN n).heap.size = w1.heap.size + 1 := by simp
    rw [hz] at h2
    exact h2
theorem did_refl {w : World} {t : Nat} {f g : Nat → Nat} {r : RS} (hI : ImplAt w t f g r) (n : Nat) : Did w t f g r r (w.drewN n) :=
  ⟨f, g, hI.below (pw_below_drewN (Below.refl _ _) n), (Keeps.refl _ w).drewN n, fun _ h => .inl h⟩
theorem acts_none {w : World} {t : Nat} {f g : Nat → Nat} {r : RS} (hI : ImplAt w t f g r) : Acts 79 #[] w (Did w t f g r r) := by
  refine ⟨enters79, fun n => ?_⟩
  go_enter Tryz.func79, Tryz.ntmps79
  go_wp2
  go_end0
  exact ⟨rfl, did_refl hI n⟩
theorem findL_up {L : List S58} : ∀ (l : List ByteArray) (s : Spot), l ≠ [] → (findL L l s).2 = 0 → (findL L l s).1.up ≠ none
  | [], s, h, _ => absurd rfl h
  | n :: l, s, _, h0 => by
    unfold findL at h0 ⊢
    cases hs : s.n with
    | none => rw [hs] at h0; simp at h0
    | some i =>
      rw [hs] at h0
      simp only at h0 ⊢
      by_cases hd : (at_ L i).f1 = true
      · rw [if_pos hd] at h0 ⊢
        by_cases hl : l = []
        · subst hl; simp [findL]
        · exact findL_up l _ hl h0
      · rw [if_neg hd] at h0
        simp at h0
set_option maxHeartbeats 2000000 in
set_option maxRecDepth 100000 in
theorem move_calls (w : World) (t : Nat) (f g : Nat → Nat) (way : Nat → List ByteArray) (r : RS) (N : Nat) (hI : ImplAt w t f g r) (hG : Good r.L way) (hL : Lim r N) (s : Spot) (hS : SpotOk r.L s) (A : Option Addr) (c : Nat) (l : List ByteArray) (hl : Kd.C Kd.string w A l.length l) (hc : l.length ≤ c) (hway : ∀ k, s.n = some k → way k = l)
    (A' : Option Addr) (c' : Nat) (m : List ByteArray) (hm : Kd.C Kd.string w A' m.length m) (hc' : m.length ≤ c') (hmn : ∀ n ∈ m, n ≠ ByteArray.empty) :
    Calls Tryz.prog 41 #[.pointer (some ⟨t, 0, none⟩), spotVal f s (.slice A l.length c), .slice A' m.length c'] w (PlanPost w t f g r (iMove r s l m)) := by
  obtain ⟨hbt, hsp, hB⟩ := boxes_spot (w := w) f s (.slice A l.length c) (.pointer (some ⟨t, 0, none⟩)) 25
  obtain ⟨c0, c1, c2⟩ := hI.tree.cells
  have hlt : t < w.heap.size := World.block_lt_of_cell? w _ c0
  have hmx := Kd.C_max hm
  obtain ⟨up, nm, sn⟩ := s
  cases sn with
  | none =>
    simp only [spotVal, ptrO, Option.map_none] at hbt hsp hB ⊢
    obtain ⟨pu, hpu⟩ : ∃ pu, pu = up.map fun i => (⟨f i, 0, none⟩ : Addr) := ⟨_, rfl⟩
    rw [← hpu] at hbt hB ⊢
    clear hpu hsp
    go_enter Tryz.func41, Tryz.ntmps41
    go_wp2
    go_ret2
    exact PlanPost.bad rfl (by decide) hB
  | some k =>
    cases up with
    | none =>
      simp only [spotVal, ptrO, Option.map_none, Option.map_some] at hbt hsp hB ⊢
      clear hsp
      go_enter Tryz.func41, Tryz.ntmps41
      go_wp2
      go_ret2
      exact PlanPost.bad rfl (by decide) hB
    | some a =>
      obtain ⟨ha, had, hw, hnm⟩ := hS.up a rfl
      simp only at hw hnm
      have hk : Live r.L k := hS.live k rfl
      have hwk := hway k rfl
      simp only [spotVal, ptrO, Option.map_none, Option.map_some] at hbt hsp hB ⊢
      by_cases hm0 : m = []
      · subst hm0
        clear hsp hw had
        go_enter Tryz.func41, Tryz.ntmps41
        go_wp2
        go_ret2
        exact PlanPost.bad (by simp [iMove]) (by decide) hB
      · have hml : m.length ≠ 0 := fun e => hm0 (List.eq_nil_of_length_eq_zero e)
        have hd1 : ((m.length : Int) == 0) = false := by simpa using hml
        have hd2 : decide ((m.length : Int) = 0) = false := by simpa using hml
        have hd3 : (m.length == 0) = false := by simpa using hml
        have hfind := fun W (hW : Below w.heap.size w W) => find_calls W t f g way r (hI.below hW) hG A' c' m (Kd.C_below hm hW) hc'
        obtain ⟨fr, hfr⟩ : ∃ fr, fr = findL r.L m ⟨none, ByteArray.empty, some 0⟩ := ⟨_, rfl⟩
        obtain ⟨res, hres⟩ : ∃ res, res = iMove r ⟨some a, nm, some k⟩ l m := ⟨_, rfl⟩
        have hres' : res = if fr.2 ≠ 0 then (r, fr.2) else
            if below l m then (r, 13) else if l = m then (r, 0) else
            match fr.1.up with
            | none => (r, 13)
            | some td => match fr.1.n with
              | some x => iReplace r a td k x nm fr.1.name
              | none => if moreOf r a td > r.bl then (r, 7) else (movedRS r a td k nm fr.1.name (moreOf r a td), 0) := by
          rw [hres, hfr]; simp only [iMove]; rw [if_neg hm0]
        rw [← hres]
        have hok := findL_ok hG m ⟨none, ByteArray.empty, some 0⟩ hmn (SpotOk.root hG)
        have hwy := findL_way hG m ⟨none, ByteArray.empty, some 0⟩ [] (fun i h => by cases h; exact ⟨hG.root.1, hG.root.2.2⟩)
        have hup := findL_up (L := r.L) m ⟨none, ByteArray.empty, some 0⟩ hm0
        rw [← hfr] at hok hwy hup
        obtain ⟨d, e⟩ := fr
        have hfind' : ∀ W, Below w.heap.size w W → Calls Tryz.prog 36 #[.pointer (some ⟨t, 0, none⟩), .slice A' m.length c'] W fun e1 w' => (e1 = .returned (.tuple #[spotVal f d (if e = 0 then .slice A' m.length c' else .slice none 0 0), .int .i64 e])) ∧ Below W.heap.size W w' := fun W hW => by
          refine (hfind W hW).mono (fun e1 w' h => ?_)
          obtain ⟨h1, h2⟩ := h
          rw [← hfr] at h1
          exact ⟨h1, h2⟩
        simp only at hok hwy hup hres'
        have Hres := Lib.hid hres'
        have Hd := Lib.hid had
        have Hw := Lib.hid hw
        have Hsp := Lib.hid hsp
        have Hbt := Lib.hid hbt
        have Hok := Lib.hid hok
        have Hwy := Lib.hid hwy
        have Hup := Lib.hid hup
        have Hm0 := Lib.hid hm0
        clear hfind hfr hres hres' had hw hsp hok hwy hup hml hm0
        by_cases he : e = 0
        · subst he
          obtain ⟨td, htd0⟩ := Option.ne_none_iff_exists'.1 (Hup.out rfl)
          obtain ⟨dup, dnm, dn⟩ := d
          simp only at htd0
          subst htd0
          have hdok := Hok.out rfl
          obtain ⟨htd, htdd, hwd, hdn⟩ := hdok.up td rfl
          simp only at hwd hdn
          have hwx := Hwy.out rfl
          simp only [if_true, spotVal, ptrO, Option.map_some] at hfind'
          have hq : ∀ w1, Below (w.heap.size + 1 + 1) ((w.alloc (.cells #[.pointer (some ⟨t, 0, none⟩)] 25)).alloc (.cells #[.pointer (some ⟨f a, 0, none⟩), .string nm, .pointer (some ⟨f k, 0, none⟩), .slice A l.length c] 91)) w1 →
              w1.cell? ⟨w.heap.size, 0, none⟩ = some (.pointer (some ⟨t, 0, none⟩)) ∧ w1.cell? ⟨w.heap.size + 1, 0, none⟩ = some (.pointer (some ⟨f a, 0, none⟩)) ∧ w1.cell? ⟨w.heap.size + 1, 1, none⟩ = some (.string nm) ∧ w1.cell? ⟨w.heap.size + 1, 2, none⟩ = some (.pointer (some ⟨f k, 0, none⟩)) ∧ w1.cell? ⟨w.heap.size + 1, 3, none⟩ = some (.slice A l.length c) ∧
              w1.cell? ⟨t, 1, none⟩ = some (.int .i64 r.bl) ∧ w.heap.size < w1.heap.size ∧ w.heap.size + 1 < w1.heap.size ∧ ¬ w.heap.size = w1.heap.size ∧ ¬ w.heap.size + 1 = w1.heap.size ∧ t < w1.heap.size ∧ ¬ t = w1.heap.size ∧ Hid (Below w.heap.size w w1) := fun w1 hb => by
            have hsz := hb.size
            simp only [World.size_alloc] at hsz
            obtain ⟨v0, v1, v2, v3⟩ := Hsp.out.cells
            simp only [ptrO, Option.map_some] at v0 v2
            have hb' : Below w.heap.size w w1 := hB.trans (hb.mono (by omega))
            exact ⟨(hb.cell (p := ⟨w.heap.size, 0, none⟩) (by simp; omega)).trans Hbt.out.cell, (hb.cell (p := ⟨w.heap.size + 1, 0, none⟩) (by simp)).trans v0, (hb.cell (p := ⟨w.heap.size + 1, 1, none⟩) (by simp)).trans v1, (hb.cell (p := ⟨w.heap.size + 1, 2, none⟩) (by simp)).trans v2, (hb.cell (p := ⟨w.heap.size + 1, 3, none⟩) (by simp)).trans v3, (hb'.cell (p := ⟨t, 1, none⟩) hlt).trans c1, by omega, by omega, by omega, by omega, by omega, by omega, hb'⟩
          have hbelow := fun W (hW : Below w.heap.size w W) => below_calls A c l A' c' m W (Kd.C_below hl hW) hc (Kd.C_below hm hW) hc'
          have hequal := fun W (hW : Below w.heap.size w W) => equal_calls A c l A' c' m W (Kd.C_below hl hW) hc (Kd.C_below hm hW) hc'
          have Hl := Lib.hid hl
          have Hm := Lib.hid hm
          have Hwd := Lib.hid hwd
          have Htdd := Lib.hid htdd
          have Hwx := Lib.hid hwx
          clear hl hm hwd htdd hwx c0 c1 c2
          by_cases hbl : below l m
          · have hdb : decide (l.length < m.length ∧ l = m.take l.length) = true := decide_eq_true hbl
            simp only [hdb] at hbelow
            have Hbl := Lib.hid hbl
            obtain ⟨pn, hpn⟩ : ∃ pn, pn = dn.map fun i => (⟨f i, 0, none⟩ : Addr) := ⟨_, rfl⟩
            rw [← hpn] at hfind'
            clear hequal hdb hbl hpn
            go_enter Tryz.func41, Tryz.ntmps41
            go_wp2_with (first
              | (go_at_call 36; refine (hfind' _ (by exact hB)).mono ?_; rintro e1 w1 ⟨rfl, hb1⟩; obtain ⟨y0, y1, y2, y3, y4, y5, z1, z2, z3, z4, z5, z6, y6⟩ := hq w1 (by simpa using hb1))
              | (go_at_call 77; refine (hbelow _ (by exact y6.out.alloc y6.out.size _)).mono ?_; rintro e1 w2 ⟨rfl, n2, rfl⟩))
            go_ret2
            exact PlanPost.bad (by rw [Hres.out, if_neg (by simp), if_pos Hbl.out]) (by decide) (pw_below_drewN (y6.out.alloc y6.out.size _) _)
          · have hdb : decide (l.length < m.length ∧ l = m.take l.length) = false := decide_eq_false hbl
            simp only [hdb] at hbelow
            have Hbl := Lib.hid hbl
            clear hdb hbl
            by_cases hlm : l = m
            · have hde : decide (l = m) = true := decide_eq_true hlm
              simp only [hde] at hequal
              have Hlm := Lib.hid hlm
              obtain ⟨pn, hpn⟩ : ∃ pn, pn = dn.map fun i => (⟨f i, 0, none⟩ : Addr) := ⟨_, rfl⟩
              rw [← hpn] at hfind'
              clear hde hlm hpn
              go_enter Tryz.func41, Tryz.ntmps41
              go_wp2_with (first
                | (go_at_call 36; refine (hfind' _ (by exact hB)).mono ?_; rintro e1 w1 ⟨rfl, hb1⟩; obtain ⟨y0, y1, y2, y3, y4, y5, z1, z2, z3, z4, z5, z6, y6⟩ := hq w1 (by simpa using hb1))
                | (go_at_call 77; refine (hbelow _ (by exact y6.out.alloc y6.out.size _)).mono ?_; rintro e1 w2 ⟨rfl, n2, rfl⟩)
                | (go_at_call 78; refine (hequal _ (by exact pw_below_drewN (y6.out.alloc y6.out.size _) _)).mono ?_; rintro e1 w2 ⟨rfl, n3, rfl⟩))
              go_ret2
              have hr : res = (r, 0) := by rw [Hres.out, if_neg (by simp), if_neg Hbl.out, if_pos Hlm.out]
              have hbz := pw_below_drewN (y6.out.alloc y6.out.size (.cells #[.pointer (some ⟨f td, 0, none⟩), .string dnm, .pointer pn, .slice A' m.length c'] 91)) (n2 + n3)
              exact ⟨_, by rw [hr]; rfl, hbz, fun _ => ⟨_, _, rfl, by rw [hr]; exact acts_none (hI.below hbz)⟩⟩
            · have hde : decide (l = m) = false := decide_eq_false hlm
              simp only [hde] at hequal
              have Hlm := Lib.hid hlm
              clear hde hlm
              cases dn with
              | some x =>
                simp only [Option.map_some] at hfind'
                have hx := hdok.live x rfl
                have hne : td = a → nm ≠ dnm := fun e1 e2 => by
                  subst e1; subst e2
                  have h1 := Hw.out
                  have h2 := Hwd.out
                  rw [h1] at h2
                  have h3 : k = x := by simpa using h2
                  subst h3
                  have h4 := (Hwx.out k rfl).2
                  rw [hwk] at h4
                  exact Hlm.out h4
                have hrep := fun W (hW : Below w.heap.size w W) => replace_calls W t f g way r N (hI.below hW) hG hL a td k x nm dnm hS hdok hne A l.length c A' m.length c'
                simp only [spotVal, ptrO, Option.map_some] at hrep
                have hr : res = iReplace r a td k x nm dnm := by rw [Hres.out, if_neg (by simp), if_neg Hbl.out, if_neg Hlm.out]
                have Hr := Lib.hid hr
                clear hr hne hdok
                go_enter Tryz.func41, Tryz.ntmps41
                go_wp2_with (first
                  | (go_at_call 36; refine (hfind' _ (by exact hB)).mono ?_; rintro e1 w1 ⟨rfl, hb1⟩; obtain ⟨y0, y1, y2, y3, y4, y5, z1, z2, z3, z4, z5, z6, y6⟩ := hq w1 (by simpa using hb1))
                  | (go_at_call 77; refine (hbelow _ (by exact y6.out.alloc y6.out.size _)).mono ?_; rintro e1 w2 ⟨rfl, n2, rfl⟩)
                  | (go_at_call 78; refine (hequal _ (by exact pw_below_drewN (y6.out.alloc y6.out.size _) _)).mono ?_; rintro e1 w2 ⟨rfl, n3, rfl⟩)
                  | (go_at_call 80; refine (hrep _ (by exact pw_below_drewN (y6.out.alloc y6.out.size _) _)).mono ?_; rintro e1 w3 ⟨cl, rfl, hb3, hacts⟩))
                go_ret2
                exact ⟨_, by rw [Hr.out]; rfl, (pw_below_drewN (y6.out.alloc y6.out.size _) _).trans (hb3.mono (pw_below_drewN (y6.out.alloc y6.out.size _) _).size), fun h => by rw [Hr.out] at h ⊢; exact hacts h⟩
              | none =>
                simp only [Option.map_none] at hfind'
                have hgr := fun W (hW : Below w.heap.size w W) => grows_at (((hI.node td htd).1 Htdd.out).below hW) hL.small (hL.slots td)
                have hr : res = if moreOf r a td > r.bl then (r, 7) else (movedRS r a td k nm dnm (moreOf r a td), 0) := by rw [Hres.out, if_neg (by simp), if_neg Hbl.out, if_neg Hlm.out]
                have Hr := Lib.hid hr
                have hb0 := hL.bl0
                have hb1' := hL.bl1
                have hsm := hL.small
                have hsl := hL.slots td
                have hgb := growsOf_bd (named (at_ r.L td).f3).length (slotsOf (at_ r.L td).f3) (slotsOf_nonneg _) (by unfold slotsOf; omega)
                by_cases htda : td = a
                · have hmo : moreOf r a td = 0 := if_pos htda
                  subst htda
                  have hd0 : decide (r.bl < 0) = false := by simp; omega
                  have Hmo := Lib.hid hmo
                  clear hr hmo hgr
                  have hsame := fun W => run_neq_ptr_same W ⟨f td, 0, none⟩
                  go_enter Tryz.func41, Tryz.ntmps41
                  go_wp2_with (first
                    | (go_at_call 36; refine (hfind' _ (by exact hB)).mono ?_; rintro e1 w1 ⟨rfl, hb1⟩; obtain ⟨y0, y1, y2, y3, y4, y5, z1, z2, z3, z4, z5, z6, y6⟩ := hq w1 (by simpa using hb1); have x1 : w.heap.size < w1.heap.size + 1 := (by omega); have x2 : w.heap.size + 1 < w1.heap.size + 1 := (by omega); have x3 : ¬ w.heap.size = w1.heap.size + 1 := (by omega); have x4 : ¬ w.heap.size + 1 = w1.heap.size + 1 := (by omega); have x5 : t < w1.heap.size + 1 := (by omega); have x6 : ¬ t = w1.heap.size + 1 := (by omega))
                    | (go_at_call 77; refine (hbelow _ (by exact y6.out.alloc y6.out.size _)).mono ?_; rintro e1 w2 ⟨rfl, n2, rfl⟩)
                    | (go_at_call 78; refine (hequal _ (by exact pw_below_drewN (y6.out.alloc y6.out.size _) _)).mono ?_; rintro e1 w2 ⟨rfl, n3, rfl⟩))
                  go_quiet (fail)
                  go_wp2
                  go_ret2
                  have hsp1 := Hsp.out.below (w' := w1) (by simpa using hb1)
                  have hbt1 := Hbt.out.below (w' := w1) (by simpa using hb1)
                  have hbb : Below w.heap.size w ((((w1.alloc (.cells #[.pointer (some ⟨f td, 0, none⟩), .string dnm, .pointer none, .slice A' m.length c'] 91)).drewN (n2 + n3)).alloc (.cells #[.int .i64 0] 3)).drewN nq) := pw_below_drewN ((pw_below_drewN (y6.out.alloc y6.out.size _) _).alloc (pw_below_drewN (y6.out.alloc y6.out.size _) _).size _) _
                  obtain ⟨k1, k2, k3, k4⟩ := move_boxes (v := .int .i64 0) (d := ⟨some td, dnm, none⟩) (lv' := .slice A' m.length c') hsp1 hbt1 (n2 + n3) nq #[.pointer (some ⟨f td, 0, none⟩), .string dnm, .pointer none, .slice A' m.length c'] rfl
                  have hr : res = (movedRS r td td k nm dnm 0, 0) := by rw [Hr.out, Hmo.out, if_neg (by omega)]
                  refine ⟨_, by rw [hr]; rfl, hbb, fun _ => ⟨_, _, rfl, ?_⟩⟩
                  rw [hr]
                  exact acts_move (hI.below hbb) hG hL htd Htdd.out htd Htdd.out Hw.out hnm Hwd.out hdn (Int.le_refl _) (by omega) (fun _ => rfl) _ _ _ _ k1 k2 k3 k4
                · have hmo : moreOf r a td = growsOf (named (at_ r.L td).f3).length (slotsOf (at_ r.L td).f3) := if_neg htda
                  have hff : ¬ f td = f a := fun e => htda (hI.inj td a htd ha e)
                  obtain ⟨more, hmore⟩ : ∃ m, m = moreOf r a td := ⟨_, rfl⟩
                  rw [← hmo, ← hmore] at hgb
                  simp only [← hmo, ← hmore] at hgr
                  have hneq : ∀ W, Below w.heap.size w W → (binOp .neq 52 (.pointer (some ⟨f td, 0, none⟩)) (.pointer (some ⟨f a, 0, none⟩))).run Tryz.prog W = .ok (.bool true) W := fun W hW => by
                    have h1 := (((hI.node td htd).1 Htdd.out).node).below hW
                    have h2 := (((hI.node a ha).1 Hd.out).node).below hW
                    exact run_neq_ptr_other W (fun e => hff (by injection e)) h1 h2
                  by_cases hgt : more > r.bl
                  · have hd0 : decide (r.bl < more) = true := decide_eq_true hgt
                    have Hr2 : Hid (res = (r, 7)) := Lib.hid (by rw [hr, ← hmore, if_pos hgt])
                    clear hr hmo hmore hgt
                    go_enter Tryz.func41, Tryz.ntmps41
                    go_wp2_with (first
                      | (go_at_call 36; refine (hfind' _ (by exact hB)).mono ?_; rintro e1 w1 ⟨rfl, hb1⟩; obtain ⟨y0, y1, y2, y3, y4, y5, z1, z2, z3, z4, z5, z6, y6⟩ := hq w1 (by simpa using hb1); have hne1 := fun n => hneq (((w1.alloc (.cells #[.pointer (some ⟨f td, 0, none⟩), .string dnm, .pointer none, .slice A' m.length c'] 91)).drewN n).alloc (.cells #[.int .i64 0] 3)) (by exact (pw_below_drewN (y6.out.alloc y6.out.size _) n).alloc (pw_below_drewN (y6.out.alloc y6.out.size _) n).size _); have x1 : w.heap.size < w1.heap.size + 1 := (by omega); have x2 : w.heap.size + 1 < w1.heap.size + 1 := (by omega); have x3 : ¬ w.heap.size = w1.heap.size + 1 := (by omega); have x4 : ¬ w.heap.size + 1 = w1.heap.size + 1 := (by omega); have x5 : t < w1.heap.size + 1 := (by omega); have x6 : ¬ t = w1.heap.size + 1 := (by omega))
                      | (go_at_call 77; refine (hbelow _ (by exact y6.out.alloc y6.out.size _)).mono ?_; rintro e1 w2 ⟨rfl, n2, rfl⟩)
                      | (go_at_call 78; refine (hequal _ (by exact pw_below_drewN (y6.out.alloc y6.out.size _) _)).mono ?_; rintro e1 w2 ⟨rfl, n3, rfl⟩)
                      | (go_at_call 66; refine (hgr _ (by exact (pw_below_drewN (y6.out.alloc y6.out.size _) _).alloc (pw_below_drewN (y6.out.alloc y6.out.size _) _).size _)).mono ?_; rintro e1 w3 ⟨rfl, n4, rfl⟩))
                    go_quiet (fail)
                    go_wp2
                    go_ret2
                    exact PlanPost.bad (by rw [Hr2.out]) (by decide) (pw_below_drewN ((pw_below_drewN ((pw_below_drewN (y6.out.alloc y6.out.size _) _).alloc (pw_below_drewN (y6.out.alloc y6.out.size _) _).size _) _).setCell (by have := y6.out.size; simp; omega) _) _)
                  · have hd0 : decide (r.bl < more) = false := decide_eq_false hgt
                    have Hr2 : Hid (res = (movedRS r a td k nm dnm more, 0)) := Lib.hid (by rw [hr, ← hmore, if_neg hgt])
                    have hmb : more ≤ r.bl := by omega
                    clear hr hmo hmore hgt
                    go_enter Tryz.func41, Tryz.ntmps41
                    go_wp2_with (first
                      | (go_at_call 36; refine (hfind' _ (by exact hB)).mono ?_; rintro e1 w1 ⟨rfl, hb1⟩; obtain ⟨y0, y1, y2, y3, y4, y5, z1, z2, z3, z4, z5, z6, y6⟩ := hq w1 (by simpa using hb1); have hne1 := fun n => hneq (((w1.alloc (.cells #[.pointer (some ⟨f td, 0, none⟩), .string dnm, .pointer none, .slice A' m.length c'] 91)).drewN n).alloc (.cells #[.int .i64 0] 3)) (by exact (pw_below_drewN (y6.out.alloc y6.out.size _) n).alloc (pw_below_drewN (y6.out.alloc y6.out.size _) n).size _); have x1 : w.heap.size < w1.heap.size + 1 := (by omega); have x2 : w.heap.size + 1 < w1.heap.size + 1 := (by omega); have x3 : ¬ w.heap.size = w1.heap.size + 1 := (by omega); have x4 : ¬ w.heap.size + 1 = w1.heap.size + 1 := (by omega); have x5 : t < w1.heap.size + 1 := (by omega); have x6 : ¬ t = w1.heap.size + 1 := (by omega))
                      | (go_at_call 77; refine (hbelow _ (by exact y6.out.alloc y6.out.size _)).mono ?_; rintro e1 w2 ⟨rfl, n2, rfl⟩)
                      | (go_at_call 78; refine (hequal _ (by exact pw_below_drewN (y6.out.alloc y6.out.size _) _)).mono ?_; rintro e1 w2 ⟨rfl, n3, rfl⟩)
                      | (go_at_call 66; refine (hgr _ (by exact (pw_below_drewN (y6.out.alloc y6.out.size _) _).alloc (pw_below_drewN (y6.out.alloc y6.out.size _) _).size _)).mono ?_; rintro e1 w3 ⟨rfl, n4, rfl⟩))
                    go_quiet (fail)
                    go_wp2
                    go_ret2
                    have hsp1 := Hsp.out.below (w' := w1) (by simpa using hb1)
                    have hbt1 := Hbt.out.below (w' := w1) (by simpa using hb1)
                    have hbb : Below w.heap.size w ((((((w1.alloc (.cells #[.pointer (some ⟨f td, 0, none⟩), .string dnm, .pointer none, .slice A' m.length c'] 91)).drewN (n2 + n3)).alloc (.cells #[.int .i64 0] 3)).drewN n4).setCell ⟨w1.heap.size + 1, 0, none⟩ (.int .i64 more)).drewN nq) := pw_below_drewN ((pw_below_drewN ((pw_below_drewN (y6.out.alloc y6.out.size _) _).alloc (pw_below_drewN (y6.out.alloc y6.out.size _) _).size _) _).setCell (by have := y6.out.size; simp; omega) _) _
                    obtain ⟨k1, k2, k3, k4⟩ := move_boxes (v := .int .i64 0) (d := ⟨some td, dnm, none⟩) (lv' := .slice A' m.length c') hsp1 hbt1 (n2 + n3) n4 #[.pointer (some ⟨f td, 0, none⟩), .string dnm, .pointer none, .slice A' m.length c'] rfl
                    have k5 : ∀ j, j ≠ w1.heap.size + 1 → ((((((w1.alloc (.cells #[.pointer (some ⟨f td, 0, none⟩), .string dnm, .pointer none, .slice A' m.length c'] 91)).drewN (n2 + n3)).alloc (.cells #[.int .i64 0] 3)).drewN n4).setCell ⟨w1.heap.size + 1, 0, none⟩ (.int .i64 more)).drewN nq).heap[j]? = (((((w1.alloc (.cells #[.pointer (some ⟨f td, 0, none⟩), .string dnm, .pointer none, .slice A' m.length c'] 91)).drewN (n2 + n3)).alloc (.cells #[.int .i64 0] 3)).drewN n4)).heap[j]? := fun j hj => Below.heap_setCell _ _ _ _ hj
                    have hr := Hr2.out
                    refine ⟨_, by rw [hr]; rfl, hbb, fun _ => ⟨_, _, rfl, ?_⟩⟩
                    rw [hr]
                    exact acts_move (hI.below hbb) hG hL ha Hd.out htd Htdd.out Hw.out hnm Hwd.out hdn hgb.1 hmb (fun e => absurd e htda) _ _ _ _ ((k5 _ (fun e => x4 e)).trans k1) ((k5 _ (by omega)).trans k2) ((k5 _ (fun e => x3 e)).trans k3) (BoxB.set (w := _) k4 _)
        · have hde : (e == 0) = false := by simpa using he
          have hde2 : decide (e = 0) = false := by simpa using he
          have hde3 : (e != 0) = true := by simpa using he
          obtain ⟨lv, hlv⟩ : ∃ lv, lv = (if e = 0 then Value.slice A' m.length c' else .slice none 0 0) := ⟨_, rfl⟩
          rw [if_neg he] at hfind'
          have He := Lib.hid he
          obtain ⟨dup, dnm, dn⟩ := d
          simp only [spotVal, ptrO] at hfind'
          obtain ⟨p1, hp1⟩ : ∃ p1, p1 = dup.map fun i => (⟨f i, 0, none⟩ : Addr) := ⟨_, rfl⟩
          obtain ⟨p2, hp2⟩ : ∃ p2, p2 = dn.map fun i => (⟨f i, 0, none⟩ : Addr) := ⟨_, rfl⟩
          rw [← hp1, ← hp2] at hfind'
          clear hp1 hp2 he hlv
          go_enter Tryz.func41, Tryz.ntmps41
          go_wp2_with (go_at_call 36; refine (hfind' _ (by exact hB)).mono ?_; rintro e1 w1 ⟨rfl, hb1⟩)
          go_ret2
          exact PlanPost.bad (by rw [Hres.out, if_pos He.out]) He.out ((hB.trans (hb1.mono hB.size)).alloc (by have := hb1.size; have := hB.size; omega) _)
end Go.Proofs.YtmjhflmkgmfjkaaGreatDoor
