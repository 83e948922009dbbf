/- A part of the proof: Z1, Z2, Z3, Z4, Z5, Z6. -/
import Derived.Test.YtmjhflmkgmfjkaaGreatDoorAh
set_option linter.unusedVariables false
set_option linter.unusedSimpArgs false
namespace Go.Proofs.YtmjhflmkgmfjkaaGreatDoor
open PTreeTwins (S58 S106 S35 z58 z106)
theorem walk_find {L : List S58} : ∀ (l : List ByteArray) (s : Spot) (i : Nat), s.n = some i → walkL L l i = if (findL L l s).2 ≠ 0 then (0, (findL L l s).2) else match (findL L l s).1.n with | none => (0, 8) | some k => (k, 0)
  | [], s, i, h => by
    unfold findL walkL
    rw [if_neg (by simp)]
    simp only [h]
  | n :: l, s, i, h => by
    unfold findL walkL
    rw [h]
    simp only
    by_cases hd : (at_ L i).f1 = true
    · rw [if_pos hd, if_pos hd]
      cases hw : whose (at_ L i).f3 n with
      | none =>
        simp only
        cases l with
        | nil => rfl
        | cons m l => unfold findL; rfl
      | some j => exact walk_find l _ j rfl
    · rw [if_neg hd, if_neg hd]; rfl
theorem find_last {L : List S58} : ∀ (d : List ByteArray) (n : ByteArray) (s : Spot) (i : Nat), s.n = some i → findL L (d ++ [n]) s = if (walkL L d i).2 ≠ 0 then (Spot.zero, (walkL L d i).2) else if (at_ L (walkL L d i).1).f1 = true then (⟨some (walkL L d i).1, n, whose (at_ L (walkL L d i).1).f3 n⟩, 0) else (Spot.zero, 11)
  | [], n, s, i, h => by
    unfold findL walkL
    simp only [List.nil_append]
    rw [h]
    simp only
    rw [if_neg (show ¬ ((0 : Int) ≠ 0) by decide)]
    by_cases hd : (at_ L i).f1 = true
    · rw [if_pos hd, if_pos hd]; unfold findL; rfl
    · rw [if_neg hd, if_neg hd]
  | m :: d, n, s, i, h => by
    rw [List.cons_append]
    unfold findL walkL
    rw [h]
    simp only
    by_cases hd : (at_ L i).f1 = true
    · rw [if_pos hd, if_pos hd]
      cases hw : whose (at_ L i).f3 m with
      | none =>
        simp only
        rw [if_pos (by decide)]
        cases d with
        | nil => unfold findL; rfl
        | cons x d => unfold findL; rfl
      | some j => exact find_last d n _ j rfl
    · rw [if_neg hd, if_neg hd]
      simp
theorem dropLast_last (d : List ByteArray) (n : ByteArray) : (d ++ [n]).dropLast = d ∧ (d ++ [n]).getLastD ByteArray.empty = n := by
  simp [List.getLastD_eq_getLast?]
theorem concat_of (l : List ByteArray) : l = [] ∨ ∃ d n, l = d ++ [n] := by
  rcases List.eq_nil_or_concat l with h | ⟨d, n, h⟩
  · exact .inl h
  · exact .inr ⟨d, n, by rw [h, List.concat_eq_append]⟩
def iOf (r : RS) (q : Spot × Int) (k : Spot → RS × Int) : RS × Int := if q.2 ≠ 0 then (r, q.2) else k q.1
theorem make_eq (r : RS) (l : List ByteArray) (dir : Bool) : iOf r (findL r.L l rootS) (fun s => iMake r s dir) = rMake r l dir := by
  rcases concat_of l with rfl | ⟨d, n, rfl⟩
  · rfl
  · unfold iOf rMake
    rw [find_last d n rootS 0 rfl, if_neg (show ¬ (d ++ [n] = []) by simp), (dropLast_last d n).1, (dropLast_last d n).2]
    obtain ⟨a, e⟩ : ∃ q, walkL r.L d 0 = q := ⟨_, rfl⟩
    obtain ⟨a, e1⟩ := a
    rw [e]
    simp only
    by_cases h1 : e1 ≠ 0
    · rw [if_pos h1]; simp only; rw [if_pos h1, if_pos h1]
    · rw [if_neg h1, if_neg h1]
      by_cases h2 : (at_ r.L a).f1 = true
      · rw [if_pos h2]
        simp only
        rw [if_neg (show ¬ ((0 : Int) ≠ 0) by decide), if_neg (show ¬ ((at_ r.L a).f1 = false) by rw [h2]; decide)]
        unfold iMake
        simp only
        cases hw : whose (at_ r.L a).f3 n with
        | some x => simp
        | none =>
          simp only [Option.isSome_none]
          rw [grows_put, if_neg (show ¬ (false = true) by decide)]
          rfl
      · rw [if_neg h2]
        simp only
        rw [if_pos (show (11 : Int) ≠ 0 by decide), if_pos (show (at_ r.L a).f1 = false by simpa using h2)]
theorem append_eq (r : RS) (l : List ByteArray) (b : List Int) : iOf r (findL r.L l rootS) (fun s => iAppend r s.n b) = rAppend r l b := by
  unfold iOf rAppend
  rw [walk_find l rootS 0 rfl]
  obtain ⟨⟨s, e⟩, h⟩ : ∃ q, findL r.L l rootS = q := ⟨_, rfl⟩
  rw [h]
  simp only
  by_cases h1 : e ≠ 0
  · rw [if_pos h1, if_pos h1]; simp only; rw [if_pos h1]
  · rw [if_neg h1, if_neg h1]
    unfold iAppend
    cases s.n with
    | none => rfl
    | some k => rfl
theorem cut_eq (r : RS) (l : List ByteArray) (i : Int) : iOf r (findL r.L l rootS) (fun s => iCut r s.n i) = rCut r l i := by
  unfold iOf rCut
  rw [walk_find l rootS 0 rfl]
  obtain ⟨⟨s, e⟩, h⟩ : ∃ q, findL r.L l rootS = q := ⟨_, rfl⟩
  rw [h]
  simp only
  by_cases h1 : e ≠ 0
  · rw [if_pos h1, if_pos h1]; simp only; rw [if_pos h1]
  · rw [if_neg h1, if_neg h1]
    unfold iCut
    cases s.n with
    | none => rfl
    | some k =>
      simp only
      rw [if_neg (show ¬ ((0 : Int) ≠ 0) by decide), Int.add_sub_assoc]
theorem remove_eq {r : RS} {way : Nat → List ByteArray} (hG : Good r.L way) (l : List ByteArray) (dir : Bool) : iOf r (findL r.L l rootS) (fun s => iRemove r s dir) = rRemove r l dir := by
  unfold iOf rRemove
  rw [walk_find l rootS 0 rfl]
  rcases concat_of l with rfl | ⟨d, n, rfl⟩
  · have h0 : findL r.L [] rootS = (rootS, 0) := rfl
    rw [h0]
    simp only [rootS]
    cases dir <;> simp [iRemove, hG.root.2.1]
  · rw [find_last d n rootS 0 rfl, (dropLast_last d n).1, (dropLast_last d n).2]
    obtain ⟨⟨a, e1⟩, e⟩ : ∃ q, walkL r.L d 0 = q := ⟨_, rfl⟩
    rw [e]
    simp only
    by_cases h1 : e1 ≠ 0
    · rw [if_pos h1]; simp only; rw [if_pos h1, if_pos h1]; simp only; rw [if_pos h1]
    · rw [if_neg h1]
      by_cases h2 : (at_ r.L a).f1 = true
      · rw [if_pos h2]
        simp only
        rw [if_neg (show ¬ ((0 : Int) ≠ 0) by decide)]
        unfold iRemove
        cases hw : whose (at_ r.L a).f3 n with
        | none => rfl
        | some k =>
          simp only
          cases hk : (at_ r.L k).f1 <;> cases dir <;> simp [removedRS, hk]
      · rw [if_neg h2]; simp
theorem rename_eq {r : RS} {way : Nat → List ByteArray} (hG : Good r.L way) (hb : 0 ≤ r.bl) (l m : List ByteArray) : iOf r (findL r.L l rootS) (fun s => iMove r s l m) = rRename r l m := by
  unfold iOf rRename
  rw [walk_find l rootS 0 rfl]
  rcases concat_of l with rfl | ⟨d, n, rfl⟩
  · have h0 : findL r.L [] rootS = (rootS, 0) := rfl
    rw [h0]
    simp only [rootS]
    rw [if_neg (show ¬ ((0 : Int) ≠ 0) by decide)]
    simp [iMove]
  · rw [find_last d n rootS 0 rfl, (dropLast_last d n).1, (dropLast_last d n).2]
    obtain ⟨⟨a, e1⟩, e⟩ : ∃ q, walkL r.L d 0 = q := ⟨_, rfl⟩
    rw [e]
    simp only
    by_cases h1 : e1 ≠ 0
    · rw [if_pos h1]; simp only; rw [if_pos h1, if_pos h1]; simp only; rw [if_pos h1]
    · rw [if_neg h1]
      by_cases h2 : (at_ r.L a).f1 = true
      · rw [if_pos h2]
        simp only
        rw [if_neg (show ¬ ((0 : Int) ≠ 0) by decide)]
        unfold iMove
        cases hw : whose (at_ r.L a).f3 n with
        | none => rfl
        | some k =>
          simp only
          repeat rw [if_neg (show ¬ (0 : Int) ≠ 0 by decide)]
          rcases concat_of m with rfl | ⟨d', n', rfl⟩
          · simp
          · rw [if_neg (show ¬ (d' ++ [n'] = []) by simp), if_neg (show ¬ (d ++ [n] = [] ∨ d' ++ [n'] = []) by simp)]
            have hroot : (⟨none, ByteArray.empty, some 0⟩ : Spot) = rootS := rfl
            rw [hroot, find_last d' n' rootS 0 rfl, (dropLast_last d' n').1, (dropLast_last d' n').2]
            obtain ⟨⟨td, e2⟩, em⟩ : ∃ q, walkL r.L d' 0 = q := ⟨_, rfl⟩
            rw [em]
            simp only
            by_cases h3 : e2 ≠ 0
            · rw [if_pos h3]; simp only; rw [if_pos h3, if_pos h3]
            · rw [if_neg h3, if_neg h3]
              by_cases h4 : (at_ r.L td).f1 = true
              · rw [if_pos h4]
                simp only
                rw [if_neg (show ¬ (0 : Int) ≠ 0 by decide), if_neg (show ¬ ((at_ r.L td).f1 = false) by rw [h4]; decide)]
                have hbel : below (d ++ [n]) (d' ++ [n']) ↔ (d ++ [n]).length < (d' ++ [n']).length ∧ (d ++ [n]) <+: (d' ++ [n']) := by
                  unfold below; rw [List.prefix_iff_eq_take]
                by_cases h5 : below (d ++ [n]) (d' ++ [n'])
                · rw [if_pos h5, if_pos (hbel.1 h5)]
                · rw [if_neg h5, if_neg (fun h => h5 (hbel.2 h))]
                  by_cases h6 : d ++ [n] = d' ++ [n']
                  · rw [if_pos h6, if_pos h6]
                  · rw [if_neg h6, if_neg h6]
                    cases hx : whose (at_ r.L td).f3 n' with
                    | some x => rfl
                    | none =>
                      simp only
                      rw [grows_put]
                      unfold moreOf movedRS
                      by_cases h7 : a = td
                      · simp only [if_pos h7, if_pos h7.symm]
                        rw [if_neg (by omega)]
                      · simp only [if_neg h7, if_neg (show ¬ td = a from fun e => h7 e.symm)]
              · rw [if_neg h4, if_pos (show (at_ r.L td).f1 = false by simpa using h4)]
                simp
      · rw [if_neg h2]; simp
/-- the implementation's acts are the document's -/
theorem iPlan_eq {r : RS} {way : Nat → List ByteArray} (hG : Good r.L way) (hb : 0 ≤ r.bl) (o : S35) : iPlan o r = rDo o r := by
  unfold iPlan rDo
  by_cases h1 : o.f0 < 1
  · rw [if_pos h1, if_pos (.inl h1)]
  · rw [if_neg h1]
    by_cases h2 : 7 < o.f0
    · rw [if_pos h2, if_pos (.inr h2)]
    · rw [if_neg h2, if_neg (show ¬ (o.f0 < 1 ∨ o.f0 > 7) from fun h => h.elim h1 h2)]
      obtain ⟨⟨l, e1⟩, e⟩ : ∃ q, splitP o.f1 = q := ⟨_, rfl⟩
      rw [e]
      simp only
      by_cases h3 : e1 ≠ 0
      · rw [if_pos h3, if_pos h3]
      · rw [if_neg h3, if_neg h3]
        rw [← make_eq, ← make_eq, ← append_eq, ← cut_eq, ← remove_eq hG, ← remove_eq hG]
        obtain ⟨⟨m, e2⟩, em⟩ : ∃ q, splitP o.f2 = q := ⟨_, rfl⟩
        rw [em]
        simp only
        by_cases h7 : o.f0 = 7
        · simp only [if_neg (show ¬ o.f0 = 1 by omega), if_neg (show ¬ o.f0 = 2 by omega), if_neg (show ¬ o.f0 = 3 by omega), if_neg (show ¬ o.f0 = 4 by omega), if_neg (show ¬ o.f0 = 5 by omega), if_neg (show ¬ o.f0 = 6 by omega)]
          by_cases h8 : e2 ≠ 0
          · rw [if_pos (show o.f0 = 7 ∧ e2 ≠ 0 from ⟨h7, h8⟩), if_pos h8]
          · rw [if_neg (show ¬ (o.f0 = 7 ∧ e2 ≠ 0) from fun h => h8 h.2), if_neg h8, ← rename_eq hG hb]
            rfl
        · rw [if_neg (show ¬ (o.f0 = 7 ∧ e2 ≠ 0) from fun h => h7 h.1)]
          unfold iOf
          by_cases hq : (findL r.L l rootS).2 ≠ 0
          · simp only [if_pos hq]
            repeat' split
            all_goals first | rfl | omega
          · simp only [if_neg hq]
            repeat' split
            all_goals first | rfl | omega
end Go.Proofs.YtmjhflmkgmfjkaaGreatDoor
namespace Go.Proofs.YtmjhflmkgmfjkaaGreatDoor
open PTreeTwins (S58 S106 S35 z58 z106)
theorem Good.congr {L L' : List S58} {way : Nat → List ByteArray} (hG : Good L way) (hl : ∀ i, Live L' i ↔ Live L i) (h1 : ∀ i, (at_ L' i).f1 = (at_ L i).f1) (h3 : ∀ i, (at_ L' i).f3 = (at_ L i).f3) (h2 : ∀ i, Live L i → (at_ L i).f1 = true → (at_ L' i).f2 = []) : Good L' way := by
  refine ⟨⟨(hl 0).2 hG.root.1, by rw [h1]; exact hG.root.2.1, hG.root.2.2⟩, fun i hi e he => ?_, fun i j hi hj e => hG.inj i j ((hl i).1 hi) ((hl j).1 hj) e, fun j hj h0 => ?_, fun i hi => ?_, fun i hi hd => ?_, fun i hi hd => ?_⟩
  · rw [h3] at he
    obtain ⟨a, b, c⟩ := hG.kid i ((hl i).1 hi) e he
    exact ⟨a, (hl _).2 b, c⟩
  · obtain ⟨i, a, b, e, c, d⟩ := hG.up j ((hl j).1 hj) h0
    exact ⟨i, (hl i).2 a, by rw [h1]; exact b, e, by rw [h3]; exact c, d⟩
  · rw [h3]; exact hG.names i ((hl i).1 hi)
  · rw [h3]; exact hG.file i ((hl i).1 hi) (by rw [← h1]; exact hd)
  · exact h2 i ((hl i).1 hi) (by rw [← h1]; exact hd)
theorem good_data {L : List S58} {way : Nat → List ByteArray} (hG : Good L way) {a : Nat} (ha : Live L a) (had : (at_ L a).f1 = false) (d : List Int) : Good (setF2 L a d) way := by
  refine hG.congr (setF2_live L a d ha) (fun i => (setF2_f1 L a d ha i).1) (fun i => (setF2_f1 L a d ha i).2) (fun i hi hd => ?_)
  rw [at_setF2 L a d (live_lt ha)]
  by_cases h : i = a
  · subst h; rw [had] at hd; cases hd
  · rw [if_neg h]; exact hG.dirb i hi hd
/-- a thing's entry is found by its name -/
theorem whose_of_mem {s : List S106} (hnd : ((named s).map (·.f0)).Nodup) {e : S106} (he : e ∈ named s) : whose s e.f0 = some (eix e) := by
  unfold whose
  have : (named s).find? (fun x => decide (x.f0 = e.f0)) = some e := by
    generalize hl : named s = l at *
    clear hl
    induction l with
    | nil => cases he
    | cons y l ih =>
      simp only [List.map_cons, List.nodup_cons] at hnd
      rw [List.find?_cons]
      by_cases hy : y.f0 = e.f0
      · rw [decide_eq_true hy]
        simp only
        rcases List.mem_cons.1 he with h | h
        · rw [h]
        · exact absurd (show y.f0 ∈ List.map (fun x => x.f0) l from List.mem_map.2 ⟨e, h, hy.symm⟩) hnd.1
      · rw [decide_eq_false hy]
        simp only
        rcases List.mem_cons.1 he with h | h
        · exact absurd (by rw [h]) hy
        · exact ih hnd.2 h
  rw [this]; rfl
theorem Good.parent {L : List S58} {way : Nat → List ByteArray} (hG : Good L way) {j a : Nat} {n : ByteArray} (hj : Live L j) (ha : Live L a) (h : way j = way a ++ [n]) : whose (at_ L a).f3 n = some j := by
  have h0 : j ≠ 0 := fun e => by rw [e, hG.root.2.2] at h; have := congrArg List.length h; simp at this
  obtain ⟨i, hi, _, e, he, hx⟩ := hG.up j hj h0
  have h1 := (hG.kid i hi e he).2.2
  rw [hx, h] at h1
  obtain ⟨h2, h3⟩ := List.append_inj' h1 rfl
  have h4 : i = a := hG.inj i a hi ha h2.symm
  subst h4
  have h5 : e.f0 = n := by injection h3 with h3; exact h3.symm
  rw [← h5, whose_of_mem (hG.names i hi) he, hx]
theorem good_make {r : RS} {way : Nat → List ByteArray} (hG : Good r.L way) {a : Nat} {nm : ByteArray} (dir : Bool) (more : Int) (ha : Live r.L a) (had : (at_ r.L a).f1 = true) (hnm : nm ≠ ByteArray.empty) (hno : whose (at_ r.L a).f3 nm = none) :
    Good (madeRS r a nm dir more).L (fun i => if i = freshL r.L then way a ++ [nm] else way i) := by
  have hA := made_at r a nm dir more ha
  have hLv := made_live r a nm dir more ha
  have hfk : ∀ i, Live r.L i → i ≠ freshL r.L := fun i hi e => freshL_dead r.L (e ▸ hi)
  have hka : ¬ freshL r.L = a := fun e => freshL_dead r.L (e ▸ ha)
  have h0 := hfk 0 hG.root.1
  have hput : ∀ e, e ∈ named (putS (at_ r.L a).f3 nm ((freshL r.L : Int) + 1)) ↔ e = ⟨nm, (freshL r.L : Int) + 1⟩ ∨ e ∈ named (at_ r.L a).f3 := fun e => by
    rw [(named_put _ nm _ hnm).mem_iff, List.mem_cons]
  have hnew : eix ⟨nm, (freshL r.L : Int) + 1⟩ = freshL r.L := by simp [eix]
  have hnone : ∀ j, Live r.L j → way j ≠ way a ++ [nm] := fun j hj e => by
    have := hG.parent hj ha e
    rw [hno] at this; cases this
  refine ⟨⟨(hLv 0).2 (.inr hG.root.1), ?_, by simp only [if_neg h0]; exact hG.root.2.2⟩, fun i hi e he => ?_, fun i j hi hj e => ?_, fun j hj hj0 => ?_, fun i hi => ?_, fun i hi hd => ?_, fun i hi hd => ?_⟩
  · rw [hA]
    by_cases h : 0 = a
    · rw [if_pos h]; exact had
    · rw [if_neg h, if_neg h0]; exact hG.root.2.1
  · rw [hA] at he
    by_cases h : i = a
    · subst h
      rw [if_pos rfl] at he
      simp only at he
      rcases (hput e).1 he with rfl | h1
      · rw [hnew]
        exact ⟨by simp; omega, (hLv _).2 (.inl rfl), by simp only [if_pos, if_neg (hfk _ ha)]⟩
      · obtain ⟨k1, k2, k3⟩ := hG.kid i ha e h1
        exact ⟨k1, (hLv _).2 (.inr k2), by simp only [if_neg (hfk _ k2), if_neg (hfk _ ha)]; exact k3⟩
    · rw [if_neg h] at he
      by_cases h2 : i = freshL r.L
      · rw [if_pos h2] at he; cases he
      · rw [if_neg h2] at he
        have hi' := ((hLv i).1 hi).resolve_left h2
        obtain ⟨k1, k2, k3⟩ := hG.kid i hi' e he
        exact ⟨k1, (hLv _).2 (.inr k2), by simp only [if_neg (hfk _ k2), if_neg h2]; exact k3⟩
  · by_cases h1 : i = freshL r.L <;> by_cases h2 : j = freshL r.L
    · rw [h1, h2]
    · simp only [if_pos h1, if_neg h2] at e
      exact absurd e.symm (hnone j (((hLv j).1 hj).resolve_left h2))
    · simp only [if_neg h1, if_pos h2] at e
      exact absurd e (hnone i (((hLv i).1 hi).resolve_left h1))
    · simp only [if_neg h1, if_neg h2] at e
      exact hG.inj i j (((hLv i).1 hi).resolve_left h1) (((hLv j).1 hj).resolve_left h2) e
  · by_cases h1 : j = freshL r.L
    · refine ⟨a, (hLv a).2 (.inr ha), by rw [hA, if_pos rfl]; exact had, ⟨nm, (freshL r.L : Int) + 1⟩, by rw [hA, if_pos rfl]; exact (hput _).2 (.inl rfl), by rw [hnew, h1]⟩
    · obtain ⟨i, k1, k2, e, k3, k4⟩ := hG.up j (((hLv j).1 hj).resolve_left h1) hj0
      refine ⟨i, (hLv i).2 (.inr k1), ?_, e, ?_, k4⟩
      · rw [hA]
        by_cases h : i = a
        · rw [if_pos h]; exact had
        · rw [if_neg h, if_neg (hfk i k1)]; exact k2
      · rw [hA]
        by_cases h : i = a
        · subst h; rw [if_pos rfl]; exact (hput e).2 (.inr k3)
        · rw [if_neg h, if_neg (hfk i k1)]; exact k3
  · rw [hA]
    by_cases h : i = a
    · subst h
      rw [if_pos rfl]
      refine (((named_put _ nm _ hnm).map (·.f0)).nodup_iff).2 ?_
      rw [List.map_cons, List.nodup_cons]
      refine ⟨fun hm => ?_, hG.names i ha⟩
      obtain ⟨e, he, h1⟩ := List.mem_map.1 hm
      have := whose_of_mem (hG.names i ha) he
      simp only at h1
      rw [h1, hno] at this; cases this
    · rw [if_neg h]
      by_cases h2 : i = freshL r.L
      · rw [if_pos h2]; exact List.nodup_nil
      · rw [if_neg h2]; exact hG.names i (((hLv i).1 hi).resolve_left h2)
  · rw [hA] at hd ⊢
    by_cases h : i = a
    · rw [if_pos h] at hd; simp only at hd; rw [had] at hd; cases hd
    · rw [if_neg h] at hd ⊢
      by_cases h2 : i = freshL r.L
      · rw [if_pos h2]
      · rw [if_neg h2] at hd ⊢; exact hG.file i (((hLv i).1 hi).resolve_left h2) hd
  · rw [hA] at hd ⊢
    by_cases h : i = a
    · subst h; rw [if_pos rfl]; exact hG.dirb i ha had
    · rw [if_neg h] at hd ⊢
      by_cases h2 : i = freshL r.L
      · rw [if_pos h2]
      · rw [if_neg h2] at hd ⊢; exact hG.dirb i (((hLv i).1 hi).resolve_left h2) hd
theorem good_remove {r : RS} {way : Nat → List ByteArray} (hG : Good r.L way) {a k : Nat} {nm : ByteArray} (ha : Live r.L a) (had : (at_ r.L a).f1 = true) (hw : whose (at_ r.L a).f3 nm = some k) (hnm : nm ≠ ByteArray.empty) (hk0 : named (at_ r.L k).f3 = []) :
    Good (removedRS r a k nm).L way := by
  obtain ⟨hkl, hkw, hka, hkz⟩ := kid_ne hG ha hw
  have hA := removed_at r a k nm ha hkl hka
  have hLv := removed_live r a k nm ha hkl hka
  have hnd := hG.names a ha
  have htk := named_take hw hnm hnd
  have hmem : ∀ e, e ∈ named (takeS (at_ r.L a).f3 nm) ↔ e ∈ named (at_ r.L a).f3 ∧ e.f0 ≠ nm := fun e => by rw [htk, List.mem_filter]; simp
  have h0a : ∀ i, (at_ (removedRS r a k nm).L i).f1 = true → i ≠ k → (at_ r.L i).f1 = true := fun i h hi => by
    rw [hA] at h
    by_cases h1 : i = a
    · rw [h1]; exact had
    · rw [if_neg h1, if_neg hi] at h; exact h
  refine ⟨⟨(hLv 0).2 ⟨hG.root.1, fun e => hkz e.symm⟩, ?_, hG.root.2.2⟩, fun i hi e he => ?_, fun i j hi hj e => hG.inj i j ((hLv i).1 hi).1 ((hLv j).1 hj).1 e, fun j hj hj0 => ?_, fun i hi => ?_, fun i hi hd => ?_, fun i hi hd => ?_⟩
  · rw [hA]
    by_cases h : 0 = a
    · rw [if_pos h]; exact had
    · rw [if_neg h, if_neg (fun e => hkz e.symm)]; exact hG.root.2.1
  · obtain ⟨hi1, hi2⟩ := (hLv i).1 hi
    have he' : e ∈ named (at_ r.L i).f3 ∧ (i = a → e.f0 ≠ nm) := by
      rw [hA] at he
      by_cases h : i = a
      · subst h; rw [if_pos rfl] at he; exact ⟨((hmem e).1 he).1, fun _ => ((hmem e).1 he).2⟩
      · rw [if_neg h, if_neg hi2] at he; exact ⟨he, fun e => absurd e h⟩
    obtain ⟨k1, k2, k3⟩ := hG.kid i hi1 e he'.1
    refine ⟨k1, (hLv _).2 ⟨k2, fun ek => ?_⟩, k3⟩
    rw [ek, hkw] at k3
    obtain ⟨h2, h3⟩ := List.append_inj' k3 rfl
    have h4 : i = a := hG.inj i a hi1 ha h2.symm
    exact he'.2 h4 (by injection h3 with h3; exact h3.symm)
  · obtain ⟨hj1, hj2⟩ := (hLv j).1 hj
    obtain ⟨i, k1, k2, e, k3, k4⟩ := hG.up j hj1 hj0
    have hik : i ≠ k := fun h => by rw [h, hk0] at k3; cases k3
    refine ⟨i, (hLv i).2 ⟨k1, hik⟩, ?_, e, ?_, k4⟩
    · rw [hA]
      by_cases h : i = a
      · rw [if_pos h]; exact had
      · rw [if_neg h, if_neg hik]; exact k2
    · rw [hA]
      by_cases h : i = a
      · subst h
        rw [if_pos rfl]
        refine (hmem e).2 ⟨k3, fun hn => ?_⟩
        have := whose_of_mem hnd k3
        rw [hn, hw] at this
        injection this with this
        exact hj2 (by rw [← k4, ← this])
      · rw [if_neg h, if_neg hik]; exact k3
  · obtain ⟨hi1, hi2⟩ := (hLv i).1 hi
    rw [hA]
    by_cases h : i = a
    · subst h
      rw [if_pos rfl]
      simp only
      rw [htk]
      exact hnd.sublist (List.filter_sublist.map _)
    · rw [if_neg h, if_neg hi2]; exact hG.names i hi1
  · obtain ⟨hi1, hi2⟩ := (hLv i).1 hi
    rw [hA] at hd ⊢
    by_cases h : i = a
    · rw [if_pos h] at hd; simp only at hd; rw [had] at hd; cases hd
    · rw [if_neg h, if_neg hi2] at hd ⊢; exact hG.file i hi1 hd
  · obtain ⟨hi1, hi2⟩ := (hLv i).1 hi
    rw [hA] at hd ⊢
    by_cases h : i = a
    · subst h; rw [if_pos rfl]; exact hG.dirb i ha had
    · rw [if_neg h, if_neg hi2] at hd ⊢; exact hG.dirb i hi1 hd
end Go.Proofs.YtmjhflmkgmfjkaaGreatDoor
namespace Go.Proofs.YtmjhflmkgmfjkaaGreatDoor
open PTreeTwins (S58 S106 S35 z58 z106)
/-- the way of a thing when l becomes m -/
def wayMv (l m : List ByteArray) (p : List ByteArray) : List ByteArray := if l <+: p then m ++ p.drop l.length else p
theorem wayMv_no {l m p : List ByteArray} (h : ¬ l <+: p) : wayMv l m p = p := if_neg h
theorem wayMv_yes {l m q : List ByteArray} : wayMv l m (l ++ q) = m ++ q := by
  unfold wayMv
  rw [if_pos (List.prefix_append l q)]
  simp
theorem Good.above {L : List S58} {way : Nat → List ByteArray} (hG : Good L way) : ∀ (q p : List ByteArray) (j : Nat), Live L j → way j = p ++ q → ∃ i, Live L i ∧ way i = p ∧ (q ≠ [] → named (at_ L i).f3 ≠ []) := by
  intro q
  induction hq : q.length generalizing q with
  | zero =>
    intro p j hj h
    have := List.eq_nil_of_length_eq_zero hq
    subst this
    exact ⟨j, hj, by simpa using h, fun e => absurd rfl e⟩
  | succ k ih =>
    intro p j hj h
    rcases concat_of q with rfl | ⟨q', c, rfl⟩
    · cases hq
    · have hj0 : j ≠ 0 := fun e => by
        rw [e, hG.root.2.2] at h
        have := congrArg List.length h
        simp at this
      obtain ⟨i, hi, _, e, he, hx⟩ := hG.up j hj hj0
      have h1 := (hG.kid i hi e he).2.2
      rw [hx, h, ← List.append_assoc] at h1
      obtain ⟨h2, h3⟩ := List.append_inj' h1 rfl
      simp only [List.length_append, List.length_singleton] at hq
      obtain ⟨i', g1, g2, g3⟩ := ih q' (by omega) p i hi h2.symm
      refine ⟨i', g1, g2, fun _ => ?_⟩
      by_cases hq' : q' = []
      · subst hq'
        have : i' = i := hG.inj i' i g1 hi (by rw [g2, ← h2]; simp)
        subst this
        exact List.ne_nil_of_mem he
      · exact g3 hq'
/-- A rename's tree: entry o of a goes, entry n of td becomes k; the things X go. -/
theorem good_move {L L' : List S58} {way : Nat → List ByteArray} (hG : Good L way) {a td k : Nat} {o n : ByteArray} (X : Nat → Prop) (ha : Live L a) (htd : Live L td) (htdd : (at_ L td).f1 = true) (had : (at_ L a).f1 = true) (hw : whose (at_ L a).f3 o = some k)
    (hbel : ¬ (way a ++ [o]) <+: way td) (hlm : way a ++ [o] ≠ way td ++ [n])
    (hX : ∀ x, X x → way x = way td ++ [n] ∧ named (at_ L x).f3 = []) (hfree : ∀ j, Live L j → way j = way td ++ [n] → X j)
    (hl : ∀ i, Live L' i ↔ Live L i ∧ ¬ X i) (h1 : ∀ i, Live L' i → (at_ L' i).f1 = (at_ L i).f1 ∧ (at_ L' i).f2 = (at_ L i).f2)
    (h3 : ∀ i, Live L' i → ∀ e, e ∈ named (at_ L' i).f3 ↔ (e ∈ named (at_ L i).f3 ∧ ¬ (i = a ∧ e.f0 = o) ∧ ¬ (i = td ∧ e.f0 = n)) ∨ (i = td ∧ e.f0 = n ∧ eix e = k ∧ 1 ≤ e.f1 ∧ e ∈ named (at_ L' i).f3))
    (hnew : ∃ e ∈ named (at_ L' td).f3, e.f0 = n ∧ eix e = k)
    (hnd : ∀ i, Live L' i → ((named (at_ L' i).f3).map (·.f0)).Nodup) (hf : ∀ i, Live L' i → (at_ L i).f1 = false → (at_ L' i).f3 = (at_ L i).f3) :
    Good L' (fun i => wayMv (way a ++ [o]) (way td ++ [n]) (way i)) := by
  obtain ⟨hkl, hkw, hka, hkz⟩ := kid_ne hG ha hw
  have hkX : ¬ X k := fun h => hlm (by rw [← hkw]; exact (hX k h).1)
  have hnopre : ∀ j, Live L' j → ¬ (way td ++ [n]) <+: way j := fun j hj hp => by
    obtain ⟨q, hq⟩ := hp
    obtain ⟨hj1, hj2⟩ := (hl j).1 hj
    obtain ⟨i, g1, g2, g3⟩ := hG.above q (way td ++ [n]) j hj1 hq.symm
    have hXi := hfree i g1 g2
    by_cases hq0 : q = []
    · subst hq0
      have : j = i := hG.inj j i hj1 g1 (by rw [g2, ← hq]; simp)
      exact hj2 (by rw [this]; exact hXi)
    · exact g3 hq0 (hX i hXi).2
  have ha' : ¬ (way a ++ [o]) <+: way a := fun h => by have := h.length_le; simp at this; omega
  have hlz : ¬ (way a ++ [o]) <+: way 0 := fun h => by rw [hG.root.2.2] at h; have := h.length_le; simp at this
  have h0X : ¬ X 0 := fun h => by have := (hX 0 h).1; rw [hG.root.2.2] at this; have := congrArg List.length this; simp at this
  have htdX : ¬ X td := fun h => by have := congrArg List.length (hX td h).1; simp at this
  have htd' : Live L' td := (hl td).2 ⟨htd, htdX⟩
  refine ⟨⟨(hl 0).2 ⟨hG.root.1, h0X⟩, by rw [(h1 0 ((hl 0).2 ⟨hG.root.1, h0X⟩)).1]; exact hG.root.2.1, by rw [wayMv_no hlz]; exact hG.root.2.2⟩, fun i hi e he => ?_, fun i j hi hj e => ?_, fun j hj hj0 => ?_, hnd, fun i hi hd => ?_, fun i hi hd => ?_⟩
  · obtain ⟨hi1, hi2⟩ := (hl i).1 hi
    rcases (h3 i hi e).1 he with ⟨g1, g2, g3⟩ | ⟨rfl, g2, g3, g4, _⟩
    · obtain ⟨k1, k2, k3⟩ := hG.kid i hi1 e g1
      have hXe : ¬ X (eix e) := fun h => by
        have h4 := (hX _ h).1
        rw [k3] at h4
        obtain ⟨h5, h6⟩ := List.append_inj' h4 rfl
        exact g3 ⟨hG.inj i td hi1 htd h5, by injection h6⟩
      refine ⟨k1, (hl _).2 ⟨k2, hXe⟩, ?_⟩
      rw [k3]
      by_cases hp : (way a ++ [o]) <+: way i
      · obtain ⟨q, hq⟩ := hp
        rw [← hq, List.append_assoc, wayMv_yes, wayMv_yes]
        simp [List.append_assoc]
      · rw [wayMv_no hp, wayMv_no]
        intro hp2
        rcases List.prefix_concat_iff.1 hp2 with h4 | h4
        · obtain ⟨h5, h6⟩ := List.append_inj' h4 rfl
          exact g2 ⟨hG.inj i a hi1 ha h5.symm, by injection h6 with h6; exact h6.symm⟩
        · exact hp h4
    · refine ⟨g4, by rw [g3]; exact (hl k).2 ⟨hkl, hkX⟩, ?_⟩
      rw [g3, hkw, g2, wayMv_no hbel]
      have := wayMv_yes (l := way a ++ [o]) (m := way i ++ [n]) (q := [])
      simpa using this
  · obtain ⟨hi1, hi2⟩ := (hl i).1 hi
    obtain ⟨hj1, hj2⟩ := (hl j).1 hj
    by_cases hp : (way a ++ [o]) <+: way i <;> by_cases hq : (way a ++ [o]) <+: way j
    · obtain ⟨x, hx⟩ := hp
      obtain ⟨y, hy⟩ := hq
      rw [← hx, ← hy, wayMv_yes, wayMv_yes] at e
      have := List.append_cancel_left e
      exact hG.inj i j hi1 hj1 (by rw [← hx, ← hy, this])
    · obtain ⟨x, hx⟩ := hp
      rw [← hx, wayMv_yes, wayMv_no hq] at e
      exact absurd ⟨x, e⟩ (hnopre j hj)
    · obtain ⟨y, hy⟩ := hq
      rw [← hy, wayMv_yes, wayMv_no hp] at e
      exact absurd ⟨y, e.symm⟩ (hnopre i hi)
    · rw [wayMv_no hp, wayMv_no hq] at e
      exact hG.inj i j hi1 hj1 e
  · obtain ⟨hj1, hj2⟩ := (hl j).1 hj
    by_cases hjk : j = k
    · obtain ⟨e, he, _, hx⟩ := hnew
      exact ⟨td, htd', by rw [(h1 td htd').1]; exact htdd, e, he, by rw [hx, hjk]⟩
    · obtain ⟨i, k1, k2, e, k3, k4⟩ := hG.up j hj1 hj0
      have hXi : ¬ X i := fun h => by rw [(hX i h).2] at k3; cases k3
      have hi' : Live L' i := (hl i).2 ⟨k1, hXi⟩
      refine ⟨i, hi', by rw [(h1 i hi').1]; exact k2, e, (h3 i hi' e).2 (.inl ⟨k3, ?_, ?_⟩), k4⟩
      · rintro ⟨rfl, h5⟩
        have := whose_of_mem (hG.names i k1) k3
        rw [h5, hw] at this
        injection this with this
        exact hjk (by rw [← k4, ← this])
      · rintro ⟨rfl, h5⟩
        have h6 := (hG.kid i k1 e k3).2.2
        rw [k4, h5] at h6
        exact hj2 (hfree j hj1 h6)
  · obtain ⟨hi1, hi2⟩ := (hl i).1 hi
    rw [(h1 i hi).1] at hd
    rw [hf i hi hd]
    exact hG.file i hi1 hd
  · obtain ⟨hi1, hi2⟩ := (hl i).1 hi
    rw [(h1 i hi).1] at hd
    rw [(h1 i hi).2]
    exact hG.dirb i hi1 hd
end Go.Proofs.YtmjhflmkgmfjkaaGreatDoor
namespace Go.Proofs.YtmjhflmkgmfjkaaGreatDoor
open PTreeTwins (S58 S106 S35 z58 z106)
theorem named_move2 {s : List S106} {o n : ByteArray} {k : Nat} (h : whose s o = some k) (ho : o ≠ ByteArray.empty) (hn : n ≠ ByteArray.empty) (hnd : ((named s).map (·.f0)).Nodup) (h1 : ∀ e ∈ named s, 1 ≤ e.f1) : ∃ e, eix e = k ∧ e.f0 = n ∧ 1 ≤ e.f1 ∧ (named (moveS s o n)).Perm (e :: (named s).filter fun x => decide (x.f0 ≠ o)) := by
  obtain ⟨j, hj, h2, h3⟩ := whose_atS h ho
  obtain ⟨he, hm⟩ := whose_entry h hj h2 ho
  have hgd : s.getD j z106 = s[j] := by rw [List.getD_eq_getElem?_getD, List.getElem?_eq_getElem hj]; rfl
  obtain ⟨a, b, c⟩ := named_at_set hj h3 ho hnd ⟨n, (s[j]).f1⟩
  have h1' : 1 ≤ (s[j]).f1 := h1 _ hm
  refine ⟨⟨n, (s[j]).f1⟩, he, rfl, h1', ?_⟩
  unfold moveS
  rw [h2]
  simp only
  rw [hgd, c, named_cons_named _ _ hn, a]
  exact List.perm_middle
theorem none_of_whose {s : List S106} {n : ByteArray} (hnd : ((named s).map (·.f0)).Nodup) (h : whose s n = none) : ∀ e ∈ named s, e.f0 ≠ n := fun e he hx => by
  have := whose_of_mem hnd he
  rw [hx, h] at this; cases this
theorem good_moved {r : RS} {way : Nat → List ByteArray} (hG : Good r.L way) {a td k : Nat} {o n : ByteArray} (more : Int) (ha : Live r.L a) (had : (at_ r.L a).f1 = true) (htd : Live r.L td) (htdd : (at_ r.L td).f1 = true) (hw : whose (at_ r.L a).f3 o = some k) (ho : o ≠ ByteArray.empty) (hno : whose (at_ r.L td).f3 n = none) (hn : n ≠ ByteArray.empty)
    (hbel : ¬ (way a ++ [o]) <+: way td) (hlm : way a ++ [o] ≠ way td ++ [n]) : ∃ way', Good (movedRS r a td k o n more).L way' := by
  have hla := live_lt ha
  have hltd := live_lt htd
  have hnn := none_of_whose (hG.names td htd) hno
  have hfree : ∀ j, Live r.L j → way j = way td ++ [n] → False := fun j hj h => by
    have := hG.parent hj htd h
    rw [hno] at this; cases this
  have hek : eix ⟨n, (k : Int) + 1⟩ = k := by simp [eix]
  by_cases hc : td = a
  · subst hc
    have hR : (movedRS r td td k o n more).L = setF3 r.L td (moveS (at_ r.L td).f3 o n) := by unfold movedRS; rw [if_pos rfl]
    rw [hR]
    obtain ⟨e0, p1, p2, p3, p4⟩ := named_move2 hw ho hn (hG.names td htd) (fun e he => (hG.kid td htd e he).1)
    have hat := at_setF3 r.L td (moveS (at_ r.L td).f3 o n) hltd
    have hmem : ∀ e, e ∈ named (moveS (at_ r.L td).f3 o n) ↔ e = e0 ∨ (e ∈ named (at_ r.L td).f3 ∧ e.f0 ≠ o) := fun e => by rw [p4.mem_iff, List.mem_cons, List.mem_filter]; simp
    refine ⟨_, good_move hG (fun _ => False) ha htd htdd had hw hbel hlm (fun x h => h.elim) (fun j hj h => hfree j hj h) (fun i => by rw [setF3_live _ _ _ htd]; simp) ?_ ?_ ?_ ?_ ?_⟩
    · intro i _
      rw [hat]
      by_cases h : i = td
      · subst h; rw [if_pos rfl]; exact ⟨rfl, rfl⟩
      · rw [if_neg h]; exact ⟨rfl, rfl⟩
    · intro i _ e
      rw [hat]
      by_cases h : i = td
      · subst h
        rw [if_pos rfl]
        dsimp only
        rw [hmem]
        constructor
        · rintro (rfl | ⟨g1, g2⟩)
          · exact .inr ⟨rfl, p2, p1, p3, .inl rfl⟩
          · exact .inl ⟨g1, fun h => g2 h.2, fun h => hnn e g1 h.2⟩
        · rintro (⟨g1, g2, _⟩ | ⟨_, _, _, _, g⟩)
          · exact .inr ⟨g1, fun h => g2 ⟨rfl, h⟩⟩
          · exact g
      · rw [if_neg h]
        constructor
        · intro g; exact .inl ⟨g, fun h2 => h h2.1, fun h2 => h h2.1⟩
        · rintro (⟨g, _⟩ | ⟨g, _⟩)
          · exact g
          · exact absurd g h
    · refine ⟨e0, ?_, p2, p1⟩
      rw [hat, if_pos rfl]
      exact (hmem e0).2 (.inl rfl)
    · intro i hi
      rw [hat]
      by_cases h : i = td
      · subst h
        rw [if_pos rfl]
        simp only
        refine ((p4.map (·.f0)).nodup_iff).2 ?_
        rw [List.map_cons, List.nodup_cons]
        refine ⟨fun hm => ?_, (hG.names i htd).sublist (List.filter_sublist.map _)⟩
        obtain ⟨e, he, h1⟩ := List.mem_map.1 hm
        exact hnn e (List.mem_filter.1 he).1 (by rw [← p2]; exact h1)
      · rw [if_neg h]
        exact hG.names i ((setF3_live _ _ _ htd i).1 hi)
    · intro i _ hd
      rw [hat, if_neg (fun e => by rw [e, htdd] at hd; cases hd)]
  · have hac : ¬ a = td := fun e => hc e.symm
    have hR : (movedRS r a td k o n more).L = setF3 (setF3 r.L td (putS (at_ r.L td).f3 n ((k : Int) + 1))) a (takeS (at_ (setF3 r.L td (putS (at_ r.L td).f3 n ((k : Int) + 1))) a).f3 o) := by unfold movedRS; rw [if_neg hc]
    rw [hR]
    have hlv : ∀ i, Live (setF3 (setF3 r.L td (putS (at_ r.L td).f3 n ((k : Int) + 1))) a (takeS (at_ (setF3 r.L td (putS (at_ r.L td).f3 n ((k : Int) + 1))) a).f3 o)) i ↔ Live r.L i := fun i => (setF3_live _ _ _ ((setF3_live _ _ _ htd a).2 ha) i).trans (setF3_live _ _ _ htd i)
    have hat : ∀ i, at_ (setF3 (setF3 r.L td (putS (at_ r.L td).f3 n ((k : Int) + 1))) a (takeS (at_ (setF3 r.L td (putS (at_ r.L td).f3 n ((k : Int) + 1))) a).f3 o)) i = if i = a then { at_ r.L a with f3 := takeS (at_ r.L a).f3 o } else if i = td then { at_ r.L td with f3 := putS (at_ r.L td).f3 n ((k : Int) + 1) } else at_ r.L i := fun i => by
      rw [at_setF3 _ _ _ (by rw [setF3_length]; exact hla), at_setF3 _ _ _ hltd, at_setF3 _ _ _ hltd, if_neg hac]
    have hma : ∀ e, e ∈ named (takeS (at_ r.L a).f3 o) ↔ e ∈ named (at_ r.L a).f3 ∧ e.f0 ≠ o := fun e => by rw [named_take hw ho (hG.names a ha), List.mem_filter]; simp
    have hmt : ∀ e, e ∈ named (putS (at_ r.L td).f3 n ((k : Int) + 1)) ↔ e = ⟨n, (k : Int) + 1⟩ ∨ e ∈ named (at_ r.L td).f3 := fun e => by rw [(named_put _ n _ hn).mem_iff, List.mem_cons]
    refine ⟨_, good_move hG (fun _ => False) ha htd htdd had hw hbel hlm (fun x h => h.elim) (fun j hj h => hfree j hj h) (fun i => by rw [hlv]; simp) ?_ ?_ ?_ ?_ ?_⟩
    · intro i _
      rw [hat]
      by_cases h : i = a
      · subst h; rw [if_pos rfl]; exact ⟨rfl, rfl⟩
      · rw [if_neg h]
        by_cases h2 : i = td
        · subst h2; rw [if_pos rfl]; exact ⟨rfl, rfl⟩
        · rw [if_neg h2]; exact ⟨rfl, rfl⟩
    · intro i _ e
      rw [hat]
      by_cases h : i = a
      · subst h
        rw [if_pos rfl]
        dsimp only
        rw [hma]
        constructor
        · rintro ⟨g1, g2⟩; exact .inl ⟨g1, fun h => g2 h.2, fun h => hac h.1⟩
        · rintro (⟨g1, g2, _⟩ | ⟨g, _⟩)
          · exact ⟨g1, fun h => g2 ⟨rfl, h⟩⟩
          · exact absurd g hac
      · rw [if_neg h]
        by_cases h2 : i = td
        · subst h2
          rw [if_pos rfl]
          dsimp only
          rw [hmt]
          constructor
          · rintro (rfl | g)
            · exact .inr ⟨rfl, rfl, hek, by simp; omega, .inl rfl⟩
            · exact .inl ⟨g, fun h3 => h h3.1, fun h3 => hnn e g h3.2⟩
          · rintro (⟨g, _⟩ | ⟨_, _, _, _, g⟩)
            · exact .inr g
            · exact g
        · rw [if_neg h2]
          constructor
          · intro g; exact .inl ⟨g, fun h3 => h h3.1, fun h3 => h2 h3.1⟩
          · rintro (⟨g, _⟩ | ⟨g, _⟩)
            · exact g
            · exact absurd g h2
    · refine ⟨⟨n, (k : Int) + 1⟩, ?_, rfl, hek⟩
      rw [hat, if_neg hc, if_pos rfl]
      exact (hmt _).2 (.inl rfl)
    · intro i hi
      have hi' := (hlv i).1 hi
      rw [hat]
      by_cases h : i = a
      · subst h
        rw [if_pos rfl]
        simp only
        rw [named_take hw ho (hG.names i ha)]
        exact (hG.names i ha).sublist (List.filter_sublist.map _)
      · rw [if_neg h]
        by_cases h2 : i = td
        · subst h2
          rw [if_pos rfl]
          simp only
          refine (((named_put _ n _ hn).map (·.f0)).nodup_iff).2 ?_
          rw [List.map_cons, List.nodup_cons]
          refine ⟨fun hm => ?_, hG.names i htd⟩
          obtain ⟨e, he, h1⟩ := List.mem_map.1 hm
          exact hnn e he h1
        · rw [if_neg h2]; exact hG.names i hi'
    · intro i _ hd
      rw [hat, if_neg (fun e => by rw [e, had] at hd; cases hd), if_neg (fun e => by rw [e, htdd] at hd; cases hd)]
theorem mem_swap {s : List S106} {n : ByteArray} {x k : Nat} (hw : whose s n = some x) (hn : n ≠ ByteArray.empty) (hnd : ((named s).map (·.f0)).Nodup) (e : S106) : e ∈ named (swapS s n ((k : Int) + 1)) ↔ e = ⟨n, (k : Int) + 1⟩ ∨ (e ∈ named s ∧ e.f0 ≠ n) := by
  rw [named_swap hw hn hnd, List.mem_map]
  obtain ⟨e0, he0, h1, _⟩ := whose_mem hw
  constructor
  · rintro ⟨y, hy, rfl⟩
    split
    · exact .inl rfl
    · rename_i h; exact .inr ⟨hy, h⟩
  · rintro (rfl | ⟨h, h2⟩)
    · exact ⟨e0, he0, if_pos h1⟩
    · exact ⟨e, h, if_neg h2⟩
theorem good_replaced {r : RS} {way : Nat → List ByteArray} (hG : Good r.L way) {a td k x : Nat} {o n : ByteArray} (ha : Live r.L a) (had : (at_ r.L a).f1 = true) (htd : Live r.L td) (htdd : (at_ r.L td).f1 = true) (hw : whose (at_ r.L a).f3 o = some k) (ho : o ≠ ByteArray.empty) (hwx : whose (at_ r.L td).f3 n = some x) (hn : n ≠ ByteArray.empty)
    (hx0 : named (at_ r.L x).f3 = []) (hbel : ¬ (way a ++ [o]) <+: way td) (hlm : way a ++ [o] ≠ way td ++ [n]) : ∃ way', Good (replacedRS r a td k x o n).L way' := by
  obtain ⟨hxl, hxw, hxt, _⟩ := kid_ne hG htd hwx
  have hxa : x ≠ a := fun e => by
    obtain ⟨e', he', _⟩ := whose_mem hw
    rw [← e, hx0] at he'; cases he'
  have hat := replaced_at r a td k x o n ha htd hxl hxa hxt
  have hlv := replaced_live r a td k x o n ha htd hxl hxa hxt
  have hek : eix ⟨n, (k : Int) + 1⟩ = k := by simp [eix]
  have hnt := hG.names td htd
  have hms := fun e => mem_swap (k := k) hwx hn hnt e
  have hne : td = a → o ≠ n := fun h e => hlm (by rw [h, e])
  have hsn : ((named (swapS (at_ r.L td).f3 n ((k : Int) + 1))).map (·.f0)).Nodup := by rw [swap_names hwx hn hnt]; exact hnt
  have hma : td ≠ a → ∀ e, e ∈ named (takeS (at_ r.L a).f3 o) ↔ e ∈ named (at_ r.L a).f3 ∧ e.f0 ≠ o := fun _ e => by rw [named_take hw ho (hG.names a ha), List.mem_filter]; simp
  have hmb : td = a → ∀ e, e ∈ named (takeS (swapS (at_ r.L a).f3 n ((k : Int) + 1)) o) ↔ e ∈ named (swapS (at_ r.L td).f3 n ((k : Int) + 1)) ∧ e.f0 ≠ o := fun h e => by
    subst h
    rw [named_take (whose_swap hwx hn hnt _ hw (hne rfl)) ho hsn, List.mem_filter]; simp
  refine ⟨_, good_move hG (fun i => i = x) ha htd htdd had hw hbel hlm (fun y h => by subst h; exact ⟨hxw, hx0⟩) (fun j hj h => by have := hG.parent hj htd h; rw [hwx] at this; injection this with this; exact this.symm) hlv ?_ ?_ ?_ ?_ ?_⟩
  · intro i hi
    have hi2 := ((hlv i).1 hi).2
    rw [hat]
    by_cases h : i = a
    · subst h; rw [if_pos rfl]; split <;> exact ⟨rfl, rfl⟩
    · rw [if_neg h]
      by_cases h2 : i = td
      · subst h2; rw [if_pos rfl]; exact ⟨rfl, rfl⟩
      · rw [if_neg h2, if_neg hi2]; exact ⟨rfl, rfl⟩
  · intro i hi e
    have hi2 := ((hlv i).1 hi).2
    rw [hat]
    by_cases h : i = a
    · subst h
      rw [if_pos rfl]
      by_cases hc : td = i
      · rw [if_pos hc]
        dsimp only
        rw [hmb hc, hms]
        subst hc
        constructor
        · rintro ⟨rfl | ⟨g1, g2⟩, g3⟩
          · exact .inr ⟨rfl, rfl, hek, by simp; omega, .inl rfl, g3⟩
          · exact .inl ⟨g1, fun h => g3 h.2, fun h => g2 h.2⟩
        · rintro (⟨g1, g2, g3⟩ | ⟨_, _, _, _, g⟩)
          · exact ⟨.inr ⟨g1, fun h => g3 ⟨rfl, h⟩⟩, fun h => g2 ⟨rfl, h⟩⟩
          · exact g
      · rw [if_neg hc]
        dsimp only
        rw [hma hc]
        constructor
        · rintro ⟨g1, g2⟩; exact .inl ⟨g1, fun h => g2 h.2, fun h => hc h.1.symm⟩
        · rintro (⟨g1, g2, _⟩ | ⟨g, _⟩)
          · exact ⟨g1, fun h => g2 ⟨rfl, h⟩⟩
          · exact absurd g.symm hc
    · rw [if_neg h]
      by_cases h2 : i = td
      · subst h2
        rw [if_pos rfl]
        dsimp only
        rw [hms]
        constructor
        · rintro (rfl | ⟨g1, g2⟩)
          · exact .inr ⟨rfl, rfl, hek, by simp; omega, .inl rfl⟩
          · exact .inl ⟨g1, fun h3 => h h3.1, fun h3 => g2 h3.2⟩
        · rintro (⟨g1, _, g3⟩ | ⟨_, _, _, _, g⟩)
          · exact .inr ⟨g1, fun h3 => g3 ⟨rfl, h3⟩⟩
          · exact g
      · rw [if_neg h2, if_neg hi2]
        constructor
        · intro g; exact .inl ⟨g, fun h3 => h h3.1, fun h3 => h2 h3.1⟩
        · rintro (⟨g, _⟩ | ⟨g, _⟩)
          · exact g
          · exact absurd g h2
  · refine ⟨⟨n, (k : Int) + 1⟩, ?_, rfl, hek⟩
    rw [hat]
    by_cases hc : td = a
    · rw [if_pos hc, if_pos hc]
      exact (hmb hc _).2 ⟨(hms _).2 (.inl rfl), fun e => hne hc e.symm⟩
    · rw [if_neg hc, if_pos rfl]
      exact (hms _).2 (.inl rfl)
  · intro i hi
    obtain ⟨hi1, hi2⟩ := (hlv i).1 hi
    rw [hat]
    by_cases h : i = a
    · subst h
      rw [if_pos rfl]
      by_cases hc : td = i
      · rw [if_pos hc]
        subst hc
        simp only
        rw [named_take (whose_swap hwx hn hnt _ hw (hne rfl)) ho hsn]
        exact hsn.sublist (List.filter_sublist.map _)
      · rw [if_neg hc]
        simp only
        rw [named_take hw ho (hG.names i ha)]
        exact (hG.names i ha).sublist (List.filter_sublist.map _)
    · rw [if_neg h]
      by_cases h2 : i = td
      · subst h2; rw [if_pos rfl]; exact hsn
      · rw [if_neg h2, if_neg hi2]; exact hG.names i hi1
  · intro i hi hd
    rw [hat, if_neg (fun e => by rw [e, had] at hd; cases hd), if_neg (fun e => by rw [e, htdd] at hd; cases hd), if_neg ((hlv i).1 hi).2]
end Go.Proofs.YtmjhflmkgmfjkaaGreatDoor
namespace Go.Proofs.YtmjhflmkgmfjkaaGreatDoor
open PTreeTwins (S58 S106 S35 z58 z106)
theorem good_iMake {r : RS} {way : Nat → List ByteArray} (hG : Good r.L way) {s : Spot} (hS : SpotOk r.L s) (dir : Bool) : ∃ way', Good (iMake r s dir).1.L way' := by
  unfold iMake
  cases hn : s.n with
  | some x => exact ⟨way, hG⟩
  | none =>
    cases hu : s.up with
    | none => exact ⟨way, hG⟩
    | some a =>
      simp only
      split
      · exact ⟨way, hG⟩
      · obtain ⟨h1, h2, h3, h4⟩ := hS.up a hu
        rw [hn] at h3
        exact ⟨_, good_make hG dir _ h1 h2 h4 h3⟩
theorem good_iAppend {r : RS} {way : Nat → List ByteArray} (hG : Good r.L way) {n : Option Nat} (hn : ∀ a, n = some a → Live r.L a) (b : List Int) : ∃ way', Good (iAppend r n b).1.L way' := by
  unfold iAppend
  cases n with
  | none => exact ⟨way, hG⟩
  | some a =>
    simp only
    split
    · exact ⟨way, hG⟩
    · rename_i hd
      unfold rMore
      split
      · exact ⟨way, hG⟩
      · split
        · exact ⟨way, hG⟩
        · exact ⟨way, good_data hG (hn a rfl) (by simpa using hd) _⟩
theorem good_iCut {r : RS} {way : Nat → List ByteArray} (hG : Good r.L way) {n : Option Nat} (hn : ∀ a, n = some a → Live r.L a) (i : Int) : ∃ way', Good (iCut r n i).1.L way' := by
  unfold iCut
  cases n with
  | none => exact ⟨way, hG⟩
  | some a =>
    simp only
    split
    · exact ⟨way, hG⟩
    · rename_i hd
      split
      · exact ⟨way, hG⟩
      · exact ⟨way, good_data hG (hn a rfl) (by simpa using hd) _⟩
theorem good_iRemove {r : RS} {way : Nat → List ByteArray} (hG : Good r.L way) {s : Spot} (hS : SpotOk r.L s) (dir : Bool) : ∃ way', Good (iRemove r s dir).1.L way' := by
  unfold iRemove
  cases hn : s.n with
  | none => exact ⟨way, hG⟩
  | some k =>
    simp only
    have hk := hS.live k hn
    by_cases hd : (at_ r.L k).f1 = true
    · rw [if_pos hd]
      split
      · exact ⟨way, hG⟩
      · cases hu : s.up with
        | none => exact ⟨way, hG⟩
        | some a =>
          obtain ⟨h1, h2, h3, h4⟩ := hS.up a hu
          rw [hn] at h3
          simp only
          split
          · rename_i h; exact ⟨way, good_remove hG h1 h2 h3 h4 h⟩
          · exact ⟨way, hG⟩
    · rw [if_neg hd]
      split
      · exact ⟨way, hG⟩
      · cases hu : s.up with
        | none => exact ⟨way, hG⟩
        | some a =>
          obtain ⟨h1, h2, h3, h4⟩ := hS.up a hu
          rw [hn] at h3
          simp only
          exact ⟨way, good_remove hG h1 h2 h3 h4 (by rw [hG.file k hk (by simpa using hd)]; rfl)⟩
theorem walk_way {L : List S58} {way : Nat → List ByteArray} (hG : Good L way) {l : List ByteArray} (h : (walkL L l 0).2 = 0) : Live L (walkL L l 0).1 ∧ way (walkL L l 0).1 = l := by
  have hw := findL_way hG l rootS [] (fun i h => by cases h; exact ⟨hG.root.1, hG.root.2.2⟩)
  rw [walk_find l rootS 0 rfl] at h ⊢
  by_cases h1 : (findL L l rootS).2 ≠ 0
  · rw [if_pos h1] at h; exact absurd h h1
  · rw [if_neg h1] at h ⊢
    cases hn : (findL L l rootS).1.n with
    | none => rw [hn] at h; cases h
    | some k =>
      simp only
      have := hw (by simpa using h1) k hn
      exact ⟨this.1, by simpa using this.2⟩
theorem good_iMove {r : RS} {way : Nat → List ByteArray} (hG : Good r.L way) {s : Spot} (hS : SpotOk r.L s) (l m : List ByteArray) (hway : ∀ k, s.n = some k → way k = l) (hmn : ∀ n ∈ m, n ≠ ByteArray.empty) : ∃ way', Good (iMove r s l m).1.L way' := by
  unfold iMove
  cases hn : s.n with
  | none => exact ⟨way, hG⟩
  | some k =>
    simp only
    cases hu : s.up with
    | none => exact ⟨way, hG⟩
    | some a =>
      obtain ⟨h1, h2, h3, h4⟩ := hS.up a hu
      rw [hn] at h3
      have hk := hway k hn
      have hkw := (kid_ne hG h1 h3).2.1
      simp only
      rcases concat_of m with rfl | ⟨d', n', rfl⟩
      · rw [if_pos rfl]; exact ⟨way, hG⟩
      · rw [if_neg (show ¬ (d' ++ [n'] = []) by simp)]
        have hroot : (⟨none, ByteArray.empty, some 0⟩ : Spot) = rootS := rfl
        rw [hroot]
        have hok := findL_ok hG (d' ++ [n']) rootS hmn (SpotOk.root hG)
        have hup := walk_way hG (l := d')
        rw [find_last d' n' rootS 0 rfl] at hok ⊢
        obtain ⟨⟨td, e2⟩, em⟩ : ∃ q, walkL r.L d' 0 = q := ⟨_, rfl⟩
        rw [em] at hok hup ⊢
        simp only at hok hup ⊢
        by_cases g1 : e2 ≠ 0
        · rw [if_pos g1]; simp only; rw [if_pos g1]; exact ⟨way, hG⟩
        · rw [if_neg g1] at hok ⊢
          have hwd := (hup (by simpa using g1)).2
          by_cases g2 : (at_ r.L td).f1 = true
          · rw [if_pos g2] at hok ⊢
            simp only at hok ⊢
            rw [if_neg (show ¬ ((0 : Int) ≠ 0) by decide)]
            have hD := hok trivial
            obtain ⟨t1, t2, t3, t4⟩ := hD.up td rfl
            simp only at t3 t4
            by_cases g3 : below l (d' ++ [n'])
            · rw [if_pos g3]; exact ⟨way, hG⟩
            · rw [if_neg g3]
              by_cases g4 : l = d' ++ [n']
              · rw [if_pos g4]; exact ⟨way, hG⟩
              · rw [if_neg g4]
                have hbel : ¬ (way a ++ [s.name]) <+: way td := fun h => by
                  rw [← hkw, hk, hwd] at h
                  refine g3 ⟨?_, ?_⟩
                  · have := h.length_le; simp; omega
                  · exact List.prefix_iff_eq_take.1 (h.trans (List.prefix_append _ _))
                have hlm : way a ++ [s.name] ≠ way td ++ [n'] := by rw [← hkw, hk, hwd]; exact g4
                cases hx : whose (at_ r.L td).f3 n' with
                | none =>
                  simp only
                  split
                  · exact ⟨way, hG⟩
                  · exact good_moved hG _ h1 h2 t1 t2 h3 h4 hx t4 hbel hlm
                | some x =>
                  simp only
                  unfold iReplace
                  split
                  · exact ⟨way, hG⟩
                  · rename_i hov
                    have hx0 : named (at_ r.L x).f3 = [] := by
                      have hxl := (kid_ne hG t1 hx).1
                      unfold rOver at hov
                      by_cases hxd : (at_ r.L x).f1 = true
                      · by_cases hh : named (at_ r.L x).f3 = []
                        · exact hh
                        · exfalso
                          apply hov
                          repeat' split
                          all_goals first | decide | (rename_i h1 h2 h3; exact absurd ⟨hxd, hh⟩ h3)
                      · rw [hG.file x hxl (by simpa using hxd)]; rfl
                    exact good_replaced hG h1 h2 t1 t2 h3 h4 hx t4 hx0 hbel hlm
          · rw [if_neg g2]; simp only; rw [if_pos (show (11 : Int) ≠ 0 by decide)]; exact ⟨way, hG⟩
theorem good_plan {r : RS} {way : Nat → List ByteArray} (hG : Good r.L way) (o : S35) : ∃ way', Good (iPlan o r).1.L way' := by
  have hok := findL_ok hG (splitP o.f1).1 rootS (fun n hn => (splitP_ok o.f1 n hn).2) (SpotOk.root hG)
  have hwy := findL_way hG (splitP o.f1).1 rootS [] (fun i h => by cases h; exact ⟨hG.root.1, hG.root.2.2⟩)
  unfold iPlan
  by_cases c1 : o.f0 < 1
  · rw [if_pos c1]; exact ⟨way, hG⟩
  · rw [if_neg c1]
    by_cases c2 : 7 < o.f0
    · rw [if_pos c2]; exact ⟨way, hG⟩
    · rw [if_neg c2]
      by_cases c3 : (splitP o.f1).2 ≠ 0
      · rw [if_pos c3]; exact ⟨way, hG⟩
      · rw [if_neg c3]
        by_cases c4 : o.f0 = 7 ∧ (splitP o.f2).2 ≠ 0
        · rw [if_pos c4]; exact ⟨way, hG⟩
        · rw [if_neg c4]
          by_cases c5 : (findL r.L (splitP o.f1).1 rootS).2 ≠ 0
          · rw [if_pos c5]; exact ⟨way, hG⟩
          · rw [if_neg c5]
            have hS := hok (by simpa using c5)
            have hW := hwy (by simpa using c5)
            split
            · exact good_iMake hG hS _
            · split
              · exact good_iMake hG hS _
              · split
                · exact good_iAppend hG (fun a ha => hS.live a ha) _
                · split
                  · exact good_iCut hG (fun a ha => hS.live a ha) _
                  · split
                    · exact good_iRemove hG hS _
                    · split
                      · exact good_iRemove hG hS _
                      · exact good_iMove hG hS _ _ (fun k hk => by have := (hW k hk).2; simpa using this) (fun n hn => (splitP_ok o.f2 n hn).2)
end Go.Proofs.YtmjhflmkgmfjkaaGreatDoor
namespace Go.Proofs.YtmjhflmkgmfjkaaGreatDoor
open PTreeTwins (S58 S106 S35 z58 z106)
theorem lim_up {r : RS} {N : Nat} (h : Lim r N) (hN : N + 1 ≤ 2000) : Lim r (N + 1) :=
  ⟨hN, fun i => Nat.le_succ_of_le (h.slots i), Nat.le_succ_of_le h.things, h.data, h.bl0, by have := h.bl1; omega, h.ino0, by have := h.ino1; omega⟩
theorem lim_make {r : RS} {N a : Nat} {nm : ByteArray} {dir : Bool} {more : Int} (h : Lim r N) (hN : N + 1 ≤ 2000) (ha : Live r.L a) (hm0 : 0 ≤ more) (hm1 : more ≤ r.bl) (hi : r.ino ≠ 0) : Lim (madeRS r a nm dir more) (N + 1) := by
  have hA := made_at r a nm dir more ha
  have h1 := h.bl1
  have h2 := h.ino0
  have h3 := h.ino1
  refine ⟨hN, fun i => ?_, ?_, fun i => ?_, ?_, ?_, ?_, ?_⟩
  · rw [hA]
    by_cases e : i = a
    · rw [if_pos e]
      simp only
      have := putS_length (at_ r.L a).f3 nm ((freshL r.L : Int) + 1)
      have h4 := h.slots a
      split at this <;> omega
    · rw [if_neg e]
      split
      · simp
      · exact Nat.le_succ_of_le (h.slots i)
  · unfold madeRS
    simp only
    rw [setF3_length]
    have := (placeL_length r.L (freshL r.L) ⟨true, dir, [], []⟩).2.2
    have := h.things
    omega
  · rw [hA]
    by_cases e : i = a
    · rw [if_pos e]; exact h.data a
    · rw [if_neg e]
      split
      · simp
      · exact h.data i
  all_goals (unfold madeRS; simp only; omega)
theorem lim_data {r : RS} {N a : Nat} {d : List Int} {bl : Int} (h : Lim r N) (hN : N + 1 ≤ 2000) (ha : Live r.L a) (hd : d.length ≤ 8458240) (h0 : 0 ≤ bl) (h1 : bl ≤ r.bl + 20000) : Lim { r with L := setF2 r.L a d, bl := bl } (N + 1) := by
  have g1 := h.bl1
  have g3 := h.ino1
  refine ⟨hN, fun i => ?_, by simp only; rw [setF2_length]; exact Nat.le_succ_of_le h.things, fun i => ?_, h0, by simp only; omega, h.ino0, by simp only; omega⟩
  · simp only
    rw [(setF2_f1 r.L a d ha i).2]
    exact Nat.le_succ_of_le (h.slots i)
  · simp only
    rw [at_setF2 _ _ _ (live_lt ha)]
    split
    · exact hd
    · exact h.data i
theorem rFree_length (r : RS) (k : Nat) : (rFree r k).L.length = r.L.length := by unfold rFree; simp
theorem lim_removed {r : RS} {N a k : Nat} {nm : ByteArray} (h : Lim r N) (hN : N + 1 ≤ 2000) (ha : Live r.L a) (hk : Live r.L k) (hka : k ≠ a) : Lim (removedRS r a k nm) (N + 1) := by
  have hA := removed_at r a k nm ha hk hka
  have g1 := h.bl1
  have g0 := h.bl0
  have g3 := h.ino1
  have g2 := h.ino0
  have hs := h.slots k
  have htk := takes_bd (h.data k) (by omega)
  refine ⟨hN, fun i => ?_, ?_, fun i => ?_, ?_, ?_, ?_, ?_⟩
  · rw [hA]
    split
    · simp only; rw [takeS_length]; exact Nat.le_succ_of_le (h.slots a)
    · split
      · simp [z58]
      · exact Nat.le_succ_of_le (h.slots i)
  · unfold removedRS; simp only; rw [setF3_length, rFree_length]; exact Nat.le_succ_of_le h.things
  · rw [hA]
    split
    · exact h.data a
    · split
      · simp [z58]
      · exact h.data i
  all_goals (unfold removedRS rFree; simp only; omega)
theorem lim_moved {r : RS} {N a td k : Nat} {o n : ByteArray} {more : Int} (h : Lim r N) (hN : N + 1 ≤ 2000) (ha : Live r.L a) (htd : Live r.L td) (hm0 : 0 ≤ more) (hm1 : more ≤ r.bl) : Lim (movedRS r a td k o n more) (N + 1) := by
  have g1 := h.bl1
  have g0 := h.bl0
  have g3 := h.ino1
  have g2 := h.ino0
  have hla := live_lt ha
  have hltd := live_lt htd
  unfold movedRS
  by_cases hc : td = a
  · rw [if_pos hc]
    have hat := at_setF3 r.L td (moveS (at_ r.L td).f3 o n) hltd
    refine ⟨hN, fun i => ?_, ?_, fun i => ?_, g0, ?_, g2, ?_⟩
    · simp only
      rw [hat]
      split
      · simp only; rw [moveS_length]; exact Nat.le_succ_of_le (h.slots td)
      · exact Nat.le_succ_of_le (h.slots i)
    · simp only; rw [setF3_length]; exact Nat.le_succ_of_le h.things
    · simp only
      rw [hat]
      split
      · exact h.data td
      · exact h.data i
    all_goals (simp only; omega)
  · rw [if_neg hc]
    have hat : ∀ i, at_ (setF3 (setF3 r.L td (putS (at_ r.L td).f3 n ((k : Int) + 1))) a (takeS (at_ (setF3 r.L td (putS (at_ r.L td).f3 n ((k : Int) + 1))) a).f3 o)) i = if i = a then { at_ r.L a with f3 := takeS (at_ r.L a).f3 o } else if i = td then { at_ r.L td with f3 := putS (at_ r.L td).f3 n ((k : Int) + 1) } else at_ r.L i := fun i => by
      rw [at_setF3 _ _ _ (by rw [setF3_length]; exact hla), at_setF3 _ _ _ hltd, at_setF3 _ _ _ hltd, if_neg (show ¬ a = td from fun e => hc e.symm)]
    refine ⟨hN, fun i => ?_, ?_, fun i => ?_, ?_, ?_, g2, ?_⟩
    · simp only
      rw [hat]
      split
      · simp only; rw [takeS_length]; exact Nat.le_succ_of_le (h.slots a)
      · split
        · simp only
          have := putS_length (at_ r.L td).f3 n ((k : Int) + 1)
          have h4 := h.slots td
          split at this <;> omega
        · exact Nat.le_succ_of_le (h.slots i)
    · simp only; rw [setF3_length, setF3_length]; exact Nat.le_succ_of_le h.things
    · simp only
      rw [hat]
      split
      · exact h.data a
      · split
        · exact h.data td
        · exact h.data i
    all_goals (simp only; omega)
theorem lim_replaced {r : RS} {N a td k x : Nat} {o n : ByteArray} (h : Lim r N) (hN : N + 1 ≤ 2000) (ha : Live r.L a) (htd : Live r.L td) (hx : Live r.L x) (hxa : x ≠ a) (hxt : x ≠ td) : Lim (replacedRS r a td k x o n) (N + 1) := by
  have hA := replaced_at r a td k x o n ha htd hx hxa hxt
  have g1 := h.bl1
  have g0 := h.bl0
  have g3 := h.ino1
  have g2 := h.ino0
  have hs := h.slots x
  have htk := takes_bd (h.data x) (by omega)
  refine ⟨hN, fun i => ?_, ?_, fun i => ?_, ?_, ?_, ?_, ?_⟩
  · rw [hA]
    split
    · split
      · simp only; rw [takeS_length, swapS_length]; exact Nat.le_succ_of_le (h.slots a)
      · simp only; rw [takeS_length]; exact Nat.le_succ_of_le (h.slots a)
    · split
      · simp only; rw [swapS_length]; exact Nat.le_succ_of_le (h.slots td)
      · split
        · simp [z58]
        · exact Nat.le_succ_of_le (h.slots i)
  · unfold replacedRS; simp only; rw [setF3_length, setF3_length, rFree_length]; exact Nat.le_succ_of_le h.things
  · rw [hA]
    split
    · split
      · exact h.data a
      · exact h.data a
    · split
      · exact h.data td
      · split
        · simp [z58]
        · exact h.data i
  all_goals (unfold replacedRS rFree; simp only; omega)
theorem lim_plan {r : RS} {way : Nat → List ByteArray} {N : Nat} (hG : Good r.L way) (hL : Lim r N) (hN : N + 1 ≤ 2000) (o : S35) : Lim (iPlan o r).1 (N + 1) := by
  have hup := lim_up hL hN
  have hok := findL_ok hG (splitP o.f1).1 rootS (fun n hn => (splitP_ok o.f1 n hn).2) (SpotOk.root hG)
  unfold iPlan
  by_cases c1 : o.f0 < 1
  · rw [if_pos c1]; exact hup
  · rw [if_neg c1]
    by_cases c2 : 7 < o.f0
    · rw [if_pos c2]; exact hup
    · rw [if_neg c2]
      by_cases c3 : (splitP o.f1).2 ≠ 0
      · rw [if_pos c3]; exact hup
      · rw [if_neg c3]
        by_cases c4 : o.f0 = 7 ∧ (splitP o.f2).2 ≠ 0
        · rw [if_pos c4]; exact hup
        · rw [if_neg c4]
          by_cases c5 : (findL r.L (splitP o.f1).1 rootS).2 ≠ 0
          · rw [if_pos c5]; exact hup
          · rw [if_neg c5]
            have hS := hok (by simpa using c5)
            have hok2 := findL_ok hG (splitP o.f2).1 rootS (fun n hn => (splitP_ok o.f2 n hn).2) (SpotOk.root hG)
            generalize (findL r.L (splitP o.f1).1 rootS).1 = s at hS
            have hmk : ∀ dir, Lim (iMake r s dir).1 (N + 1) := fun dir => by
              unfold iMake
              cases hn : s.n with
              | some x => exact hup
              | none =>
                cases hu : s.up with
                | none => exact hup
                | some a =>
                  simp only
                  split
                  · exact hup
                  · rename_i hh
                    have hsl := hL.slots a
                    have hsm := hL.small
                    have hb := growsOf_bd (named (at_ r.L a).f3).length (slotsOf (at_ r.L a).f3) (slotsOf_nonneg _) (by unfold slotsOf; omega)
                    exact lim_make hL hN (hS.up a hu).1 hb.1 (by have : ¬ growsOf (named (at_ r.L a).f3).length (slotsOf (at_ r.L a).f3) > r.bl := fun e => hh (.inr e); omega) (fun e => hh (.inl e))
            have hrm : ∀ dir, Lim (iRemove r s dir).1 (N + 1) := fun dir => by
              unfold iRemove
              cases hn : s.n with
              | none => exact hup
              | some k =>
                have hgo : ∀ a, s.up = some a → Lim (removedRS r a k s.name) (N + 1) := fun a hu => by
                  obtain ⟨t1, t2, t3, t4⟩ := hS.up a hu
                  rw [hn] at t3
                  exact lim_removed hL hN t1 (hS.live k hn) (kid_ne hG t1 t3).2.2.1
                simp only
                split
                · split
                  · exact hup
                  · cases hu : s.up with
                    | none => exact hup
                    | some a =>
                      simp only
                      split
                      · exact hgo a hu
                      · exact hup
                · split
                  · exact hup
                  · cases hu : s.up with
                    | none => exact hup
                    | some a => exact hgo a hu
            split
            · exact hmk _
            · split
              · exact hmk _
              · split
                · unfold iAppend
                  cases hn : s.n with
                  | none => exact hup
                  | some a =>
                    simp only
                    split
                    · exact hup
                    · unfold rMore
                      split
                      · exact hup
                      · split
                        · exact hup
                        · rename_i h1 h2
                          have hd := hL.data a
                          have h0 := hL.bl0
                          have hmono := allB_mono ((at_ r.L a).f2.length : Int) ((at_ r.L a).f2.length + o.f3.length : Int) (by omega) (by omega)
                          exact lim_data hL hN (hS.live a hn) (by rw [List.length_append]; omega) (by omega) (by omega)
                · split
                  · unfold iCut
                    cases hn : s.n with
                    | none => exact hup
                    | some a =>
                      simp only
                      split
                      · exact hup
                      · split
                        · exact hup
                        · rename_i h1
                          have hd := hL.data a
                          have h0 := hL.bl0
                          have h2 : 0 ≤ o.f4 ∧ o.f4 ≤ ((at_ r.L a).f2.length : Int) := ⟨by have : ¬ o.f4 < 0 := fun e => h1 (.inl e); omega, by have : ¬ o.f4 > ((at_ r.L a).f2.length : Int) := fun e => h1 (.inr e); omega⟩
                          have hmono := allB_mono o.f4 ((at_ r.L a).f2.length : Int) h2.1 h2.2
                          have b1 := allB_bd ((at_ r.L a).f2.length : Int) (by omega) (by omega)
                          have b2 := allB_bd o.f4 h2.1 (by omega)
                          exact lim_data hL hN (hS.live a hn) (by rw [List.length_take]; omega) (by omega) (by omega)
                  · split
                    · exact hrm _
                    · split
                      · exact hrm _
                      · unfold iMove
                        cases hn : s.n with
                        | none => exact hup
                        | some k =>
                          simp only
                          cases hu : s.up with
                          | none => exact hup
                          | some a =>
                            obtain ⟨t1, t2, t3, t4⟩ := hS.up a hu
                            rw [hn] at t3
                            simp only
                            split
                            · exact hup
                            · split
                              · exact hup
                              · rename_i e2
                                have hD := hok2 (by simpa [rootS] using e2)
                                have hroot : (⟨none, ByteArray.empty, some 0⟩ : Spot) = rootS := rfl
                                rw [hroot]
                                generalize (findL r.L (splitP o.f2).1 rootS).1 = d at hD
                                split
                                · exact hup
                                · split
                                  · exact hup
                                  · cases hdu : d.up with
                                    | none => exact hup
                                    | some td =>
                                      obtain ⟨v1, v2, v3, v4⟩ := hD.up td hdu
                                      simp only
                                      cases hdn : d.n with
                                      | some x =>
                                        simp only
                                        rw [hdn] at v3
                                        obtain ⟨x1, _, x2, _⟩ := kid_ne hG v1 v3
                                        unfold iReplace
                                        split
                                        · exact hup
                                        · rename_i hov
                                          refine lim_replaced hL hN t1 v1 x1 (fun e => ?_) x2
                                          apply hov
                                          obtain ⟨e', he', _⟩ := whose_mem t3
                                          have hne : named (at_ r.L a).f3 ≠ [] := List.ne_nil_of_mem he'
                                          rw [e]
                                          unfold rOver
                                          cases hkd : (at_ r.L k).f1 <;> simp [t2, hne]
                                      | none =>
                                        simp only
                                        split
                                        · exact hup
                                        · rename_i hmo
                                          have hsl := hL.slots td
                                          have hsm := hL.small
                                          have h0 := hL.bl0
                                          have hb := growsOf_bd (named (at_ r.L td).f3).length (slotsOf (at_ r.L td).f3) (slotsOf_nonneg _) (by unfold slotsOf; omega)
                                          exact lim_moved hL hN t1 v1 (by unfold moreOf; split <;> omega) (by omega)
end Go.Proofs.YtmjhflmkgmfjkaaGreatDoor
