/- A part of the proof: O1, O2, O3, O4. -/
import Derived.Test.YtmjhflmkgmfjkaaGreatDoorYj
import Derived.Test.YtmjhflmkgmfjkaaGreatDoorNc
import Derived.Test.YtmjhflmkgmfjkaaGreatDoorAi
import Derived.Test.YtmjhflmkgmfjkaaGreatDoorAh
import Derived.Test.YtmjhflmkgmfjkaaGreatDoorYc
import Derived.Test.YtmjhflmkgmfjkaaGreatDoorNa
set_option linter.unusedVariables false
set_option linter.unusedSimpArgs false
namespace Go.Proofs.YtmjhflmkgmfjkaaGreatDoor
open Go.RowKit Go.Maps Go.Sort Go.Proofs.YtmjhflmkgmfjkaaGreatDoorW.PrintWords Go.Proofs.YtmjhflmkgmfjkaaGreatDoorW.PrintMore
open PTreeTwins (S58 S106 S35 S76 S78 z58 z106 z78)
/-- a part of a tree's rows -/
def rowsN (d : Nat) (L : List S58) (i : Nat) (p : ByteArray) : List S78 := (walkN d L i p).map (rowOf L)
def rowsF (d : Nat) (L : List S58) (i : Nat) (p : ByteArray) (ns : List ByteArray) : List S78 := (ns.flatMap (stepN d L i p)).map (rowOf L)
theorem rowsN_succ (d : Nat) (L : List S58) (i : Nat) (p : ByteArray) : rowsN (d + 1) L i p = rowsF d L i p (namesOf (at_ L i).f3) := by
  unfold rowsN rowsF; rw [walkN_step]
theorem rowsF_cons {d : Nat} {L : List S58} {i : Nat} {p n : ByteArray} {ns : List ByteArray} {k : Nat} (h : whose (at_ L i).f3 n = some k) : rowsF d L i p (n :: ns) = rowOf L (joinP p n, k) :: (rowsN d L k (joinP p n) ++ rowsF d L i p ns) := by
  unfold rowsF rowsN stepN
  rw [List.flatMap_cons, h]
  simp
/-- what two things have in common if their rows are the same -/
def Like (L : List S58) (i : Nat) (M : List S58) (j : Nat) : Prop := (at_ L i).f1 = (at_ M j).f1 ∧ strOfNums (at_ L i).f2 = strOfNums (at_ M j).f2 ∧ (named (at_ L i).f3).length = (named (at_ M j).f3).length
theorem strOfNums_size (l : List Int) : (strOfNums l).size = l.length := by
  show (strOfNums l).data.size = l.length
  simp [strOfNums]
theorem rowOf_like {L M : List S58} {wayL wayM : Nat → List ByteArray} (hL : Good L wayL) (hM : Good M wayM) {i j : Nat} (hi : Live L i) (hj : Live M j) (p q : ByteArray) : rowOf L (p, i) = rowOf M (q, j) ↔ p = q ∧ Like L i M j := by
  unfold rowOf Like
  simp only [S78.mk.injEq, S76.mk.injEq]
  unfold sizeN kidsN
  constructor
  · rintro ⟨h1, ⟨h2, _, h3⟩, h4⟩
    refine ⟨h1, h2, h4, ?_⟩
    cases hd : (at_ L i).f1 with
    | true => rw [← h2, hd, if_pos rfl, if_pos rfl] at h3; omega
    | false => rw [hL.file i hi hd, hM.file j hj (by rw [← h2, hd])]
  · rintro ⟨rfl, h2, h3, h4⟩
    refine ⟨rfl, ⟨h2, ?_, by rw [h2, h4]⟩, h3⟩
    rw [h2]
    have := congrArg ByteArray.size h3
    rw [strOfNums_size, strOfNums_size] at this
    rw [this]
theorem joinP_inj {p n m : ByteArray} (h : joinP p n = joinP p m) : n = m := by
  unfold joinP at h
  have h2 := congrArg (fun b : ByteArray => b.data.toList) h
  simp only [ByteArray.data_append, Array.toList_append, List.append_cancel_left_eq] at h2
  exact ByteArray.ext (Array.toList_inj.1 h2)
theorem names_whose {L : List S58} {way : Nat → List ByteArray} (hG : Good L way) {i : Nat} (hi : Live L i) {n : ByteArray} (hn : n ∈ namesOf (at_ L i).f3) : ∃ k, whose (at_ L i).f3 n = some k ∧ Live L k := by
  rw [namesOf_eq, (sortB_perm _).mem_iff] at hn
  obtain ⟨e, he, rfl⟩ := List.mem_map.1 hn
  exact ⟨_, whose_named (hG.names i hi) he, (hG.kid i hi e he).2.1⟩
/-- a row list's beginning is known by its length in names -/
theorem dec {L M : List S58} {wayL wayM : Nat → List ByteArray} (hL : Good L wayL) (hM : Good M wayM) : ∀ (d i j : Nat) (p : ByteArray) (X Y : List S78), Live L i → Live M j → (named (at_ L i).f3).length = (named (at_ M j).f3).length → rowsN d L i p ++ X = rowsN d M j p ++ Y → rowsN d L i p = rowsN d M j p ∧ X = Y := by
  intro d
  induction d with
  | zero => intro i j p X Y _ _ _ h; exact ⟨rfl, h⟩
  | succ d ih =>
    intro i j p X Y hi hj hn h
    rw [rowsN_succ, rowsN_succ] at h ⊢
    have key : ∀ (ns ms : List ByteArray), ns.length = ms.length → (∀ n ∈ ns, n ∈ namesOf (at_ L i).f3) → (∀ n ∈ ms, n ∈ namesOf (at_ M j).f3) → ∀ X Y, rowsF d L i p ns ++ X = rowsF d M j p ms ++ Y → rowsF d L i p ns = rowsF d M j p ms ∧ X = Y := by
      intro ns
      induction ns with
      | nil => intro ms hl _ _ X Y h; rw [List.eq_nil_of_length_eq_zero hl.symm] at h ⊢; exact ⟨rfl, h⟩
      | cons n ns ihn =>
        intro ms hl h1 h2 X Y h
        obtain ⟨m, ms, rfl⟩ : ∃ m l, ms = m :: l := by cases ms with | nil => cases hl | cons m l => exact ⟨m, l, rfl⟩
        obtain ⟨a, ha, hal⟩ := names_whose hL hi (h1 n (by simp))
        obtain ⟨b, hb, hbl⟩ := names_whose hM hj (h2 m (by simp))
        rw [rowsF_cons ha, rowsF_cons hb] at h ⊢
        simp only [List.cons_append, List.cons.injEq, List.append_assoc] at h
        obtain ⟨e1, e2⟩ := h
        have e3 := (rowOf_like hL hM hal hbl _ _).1 e1
        obtain ⟨e4, e5⟩ := ih a b (joinP p n) _ _ hal hbl e3.2.2.2 (by rw [e3.1] at e2 ⊢; exact e2)
        obtain ⟨e6, e7⟩ := ihn ms (by simpa using hl) (fun x hx => h1 x (by simp [hx])) (fun x hx => h2 x (by simp [hx])) _ _ e5
        exact ⟨by rw [e1, e6, e4, e3.1], e7⟩
    refine key _ _ ?_ (fun _ h => h) (fun _ h => h) X Y h
    rw [namesOf_length, namesOf_length, hn]
/-- .. name for name -/
theorem dec_names {L M : List S58} {wayL wayM : Nat → List ByteArray} (hL : Good L wayL) (hM : Good M wayM) (d i j : Nat) (p : ByteArray) (hi : Live L i) (hj : Live M j) : ∀ (ns ms : List ByteArray), (∀ n ∈ ns, n ∈ namesOf (at_ L i).f3) → (∀ n ∈ ms, n ∈ namesOf (at_ M j).f3) → rowsF d L i p ns = rowsF d M j p ms →
    ns = ms ∧ ∀ n ∈ ns, ∃ a b, whose (at_ L i).f3 n = some a ∧ whose (at_ M j).f3 n = some b ∧ Live L a ∧ Live M b ∧ Like L a M b ∧ rowsN d L a (joinP p n) = rowsN d M b (joinP p n) := by
  intro ns
  induction ns with
  | nil =>
    intro ms _ h2 h
    cases ms with
    | nil => exact ⟨rfl, fun n hn => by cases hn⟩
    | cons m ms =>
      obtain ⟨b, hb, _⟩ := names_whose hM hj (h2 m (by simp))
      rw [rowsF_cons hb] at h
      cases h
  | cons n ns ih =>
    intro ms h1 h2 h
    obtain ⟨a, ha, hal⟩ := names_whose hL hi (h1 n (by simp))
    cases ms with
    | nil => rw [rowsF_cons ha] at h; cases h
    | cons m ms =>
      obtain ⟨b, hb, hbl⟩ := names_whose hM hj (h2 m (by simp))
      rw [rowsF_cons ha, rowsF_cons hb, List.cons.injEq] at h
      obtain ⟨e1, e2⟩ := h
      have e3 := (rowOf_like hL hM hal hbl _ _).1 e1
      obtain rfl := joinP_inj e3.1
      obtain ⟨e4, e5⟩ := dec hL hM d a b (joinP p n) _ _ hal hbl e3.2.2.2 e2
      obtain ⟨rfl, e7⟩ := ih ms (fun x hx => h1 x (by simp [hx])) (fun x hx => h2 x (by simp [hx])) e5
      refine ⟨rfl, fun x hx => ?_⟩
      rcases List.mem_cons.1 hx with rfl | hx
      · exact ⟨a, b, ha, hb, hal, hbl, e3.2, e4⟩
      · exact e7 x hx
theorem same_iff {L M : List S58} {wayL wayM : Nat → List ByteArray} (hL : Good L wayL) (hM : Good M wayM) : ∀ (d i j : Nat) (p : ByteArray), Live L i → Live M j → (∀ k, Sub L wayL i k → (wayL k).length < (wayL i).length + d) → (sameN d L i M j = true ↔ Like L i M j ∧ rowsN d L i p = rowsN d M j p) := by
  intro d
  induction d with
  | zero => intro i j p hi hj hd; exact absurd (hd i (Sub.refl hi)) (by omega)
  | succ d ih =>
    intro i j p hi hj hd
    rw [rowsN_succ, rowsN_succ]
    unfold sameN
    simp only [Bool.and_eq_true, decide_eq_true_eq, List.all_eq_true]
    have hsub : ∀ e ∈ named (at_ L i).f3, ∀ k, Sub L wayL (eix e) k → (wayL k).length < (wayL (eix e)).length + d := fun e he k hk => by
      have h1 := hd k (Sub.trans (Sub.kid hL hi (Sub.refl hi) he) hk)
      rw [(hL.kid i hi e he).2.2]; simp; omega
    constructor
    · rintro ⟨h1, h2, h3, h4⟩
      refine ⟨⟨h1, h2, h3⟩, ?_⟩
      have hall : ∀ e ∈ named (at_ L i).f3, ∃ b, whose (at_ M j).f3 e.f0 = some b ∧ Live M b ∧ Like L (eix e) M b ∧ rowsN d L (eix e) (joinP p e.f0) = rowsN d M b (joinP p e.f0) := fun e he => by
        have := h4 e he
        cases hw : whose (at_ M j).f3 e.f0 with
        | none => rw [hw] at this; cases this
        | some b =>
          rw [hw] at this
          have hb := whose_live hM hj hw
          obtain ⟨x, y⟩ := (ih (eix e) b (joinP p e.f0) (hL.kid i hi e he).2.1 hb (hsub e he)).1 this
          exact ⟨b, rfl, hb, x, y⟩
      have hperm : ((named (at_ L i).f3).map (·.f0)).Perm ((named (at_ M j).f3).map (·.f0)) := by
        have hsub : ∀ n, n ∈ (named (at_ L i).f3).map (·.f0) → n ∈ (named (at_ M j).f3).map (·.f0) := fun n hn => by
          obtain ⟨e, he, rfl⟩ := List.mem_map.1 hn
          obtain ⟨b, hb, _⟩ := hall e he
          obtain ⟨e', he', hee, _⟩ := whose_mem hb
          exact List.mem_map.2 ⟨e', he', hee⟩
        refine (List.perm_ext_iff_of_nodup (hL.names i hi) (hM.names j hj)).2 (fun n => ⟨hsub n, fun hn => ?_⟩)
        refine Classical.byContradiction fun hno => ?_
        have h1 : (n :: (named (at_ L i).f3).map (·.f0)).Nodup := List.nodup_cons.2 ⟨hno, hL.names i hi⟩
        have := List.Nodup.length_le_of_subset h1 (fun x hx => by
          rcases List.mem_cons.1 hx with rfl | hx
          · exact hn
          · exact hsub x hx)
        simp at this
        omega
      have hns : namesOf (at_ L i).f3 = namesOf (at_ M j).f3 := by rw [namesOf_eq, namesOf_eq, sortB_of_perm hperm]
      rw [← hns]
      have hF : ∀ ns : List ByteArray, (∀ n ∈ ns, n ∈ namesOf (at_ L i).f3) → rowsF d L i p ns = rowsF d M j p ns := by
        intro ns
        induction ns with
        | nil => intro _; rfl
        | cons n ns ihn =>
          intro hn
          have hm := hn n (by simp)
          rw [namesOf_eq, (sortB_perm _).mem_iff] at hm
          obtain ⟨e, he, rfl⟩ := List.mem_map.1 hm
          obtain ⟨b, hb, hbl, x, y⟩ := hall e he
          rw [rowsF_cons (whose_named (hL.names i hi) he), rowsF_cons hb, ihn (fun x hx => hn x (by simp [hx])), y, (rowOf_like hL hM (hL.kid i hi e he).2.1 hbl _ _).2 ⟨rfl, x⟩]
      exact hF _ (fun _ h => h)
    · rintro ⟨⟨h1, h2, h3⟩, h4⟩
      obtain ⟨hns, hk⟩ := dec_names hL hM d i j p hi hj _ _ (fun _ h => h) (fun _ h => h) h4
      refine ⟨h1, h2, h3, fun e he => ?_⟩
      obtain ⟨a, b, ha, hb, hal, hbl, x, y⟩ := hk e.f0 (by rw [namesOf_eq, (sortB_perm _).mem_iff]; exact List.mem_map.2 ⟨e, he, rfl⟩)
      rw [whose_named (hL.names i hi) he] at ha
      injection ha with ha
      subst ha
      rw [hb]
      exact (ih (eix e) b (joinP p e.f0) hal hbl (hsub e he)).2 ⟨x, y⟩
/-- two whole trees -/
theorem same_rows {L M : List S58} {wayL wayM : Nat → List ByteArray} (hL : Good L wayL) (hM : Good M wayM) (d : Nat) (hd : ∀ k, Live L k → (wayL k).length < d) (p : ByteArray) : sameN d L 0 M 0 = true ↔ rowsN d L 0 p = rowsN d M 0 p := by
  rw [same_iff hL hM d 0 0 p hL.root.1 hM.root.1 (fun k hk => by have := hd k hk.1; omega)]
  constructor
  · exact fun h => h.2
  · intro h
    refine ⟨⟨by rw [hL.root.2.1, hM.root.2.1], by rw [hL.dirb 0 hL.root.1 hL.root.2.1, hM.dirb 0 hM.root.1 hM.root.2.1], ?_⟩, h⟩
    cases d with
    | zero => exact absurd (hd 0 hL.root.1) (by omega)
    | succ d =>
      rw [rowsN_succ, rowsN_succ] at h
      obtain ⟨hns, _⟩ := dec_names hL hM d 0 0 p hL.root.1 hM.root.1 _ _ (fun _ h => h) (fun _ h => h) h
      rw [← namesOf_length, hns, namesOf_length]
end Go.Proofs.YtmjhflmkgmfjkaaGreatDoor
namespace Go.Proofs.YtmjhflmkgmfjkaaGreatDoor
open Go.RowKit Go.Maps Go.Sort Go.Proofs.YtmjhflmkgmfjkaaGreatDoorW.PrintWords Go.Proofs.YtmjhflmkgmfjkaaGreatDoorW.PrintMore
open PTreeTwins (S58 S106 S35 S76 S78 z58 z106 z78)
/-- entries that are free or bear a name -/
def NS (s : List S106) : Prop := ∀ e ∈ s, e.f0 = ByteArray.empty ∨ nameOk e.f0 = true
def NOk (L : List S58) : Prop := ∀ i, NS (at_ L i).f3
theorem NS.named {s : List S106} (h : NS s) {e : S106} (he : e ∈ named s) : nameOk e.f0 = true := by
  have := List.mem_filter.1 he
  rcases h e this.1 with h1 | h1
  · exact absurd h1 (by simpa using this.2)
  · exact h1
theorem nameOk_size {n : ByteArray} (h : nameOk n = true) : n.size ≤ 48 := by
  rw [nameOk_eq] at h
  simp only [Bool.and_eq_true, decide_eq_true_eq] at h
  exact h.1.1.1.2
def NO1 (n : ByteArray) : Prop := n = ByteArray.empty ∨ nameOk n = true
theorem NS.set {s : List S106} (h : NS s) (j : Nat) {e : S106} (he : NO1 e.f0) : NS (s.set j e) := fun x hx => by
  rcases List.mem_or_eq_of_mem_set hx with h1 | rfl
  · exact h x h1
  · exact he
theorem NS.put {s : List S106} (h : NS s) {n : ByteArray} (hn : NO1 n) (i : Int) : NS (putS s n i) := by
  unfold putS
  split
  · exact h.set _ hn
  · intro x hx
    rcases List.mem_append.1 hx with h1 | h1
    · exact h x h1
    · rw [List.mem_singleton.1 h1]; exact hn
theorem NS.take {s : List S106} (h : NS s) (n : ByteArray) : NS (takeS s n) := by
  unfold takeS
  split
  · exact h.set _ (.inl rfl)
  · exact h
theorem NS.move {s : List S106} (h : NS s) (o : ByteArray) {n : ByteArray} (hn : NO1 n) : NS (moveS s o n) := by
  unfold moveS
  split
  · exact h.set _ hn
  · exact h
theorem NS.swap {s : List S106} (h : NS s) (n : ByteArray) (i : Int) : NS (swapS s n i) := by
  unfold swapS
  split
  · rename_i j _
    refine h.set _ ?_
    by_cases hj : j < s.length
    · have : s.getD j z106 = s[j] := by simp [List.getD_eq_getElem?_getD, hj]
      show NO1 (s.getD j z106).f0
      rw [this]
      exact h s[j] (List.getElem_mem hj)
    · have : s.getD j z106 = z106 := by simp [List.getD_eq_getElem?_getD, List.getElem?_eq_none (Nat.le_of_not_lt hj)]
      rw [this]
      exact .inl rfl
  · exact h
theorem NS.nil : NS [] := fun _ h => by cases h
theorem at_set_ (L : List S58) (k i : Nat) (x : S58) : at_ (L.set k x) i = if k = i ∧ k < L.length then x else at_ L i := by
  unfold at_
  rw [List.getD_eq_getElem?_getD, List.getElem?_set]
  by_cases h : k = i
  · subst h
    by_cases h2 : k < L.length
    · rw [if_pos rfl, if_pos h2, if_pos ⟨rfl, h2⟩]; rfl
    · rw [if_pos rfl, if_neg h2, if_neg (fun e => h2 e.2), List.getD_eq_getElem?_getD, List.getElem?_eq_none (Nat.le_of_not_lt h2)]
  · rw [if_neg h, if_neg (fun e => h e.1), List.getD_eq_getElem?_getD]
theorem NOk.set {L : List S58} (h : NOk L) (k : Nat) {x : S58} (hx : NS x.f3) : NOk (L.set k x) := fun i => by
  rw [at_set_]
  split
  · exact hx
  · exact h i
theorem NOk.setF3 {L : List S58} (h : NOk L) (k : Nat) {s : List S106} (hs : NS s) : NOk (setF3 L k s) := h.set k hs
theorem NOk.setF2 {L : List S58} (h : NOk L) (k : Nat) (b : List Int) : NOk (setF2 L k b) := h.set k (h k)
theorem NOk.free {r : RS} (h : NOk r.L) (k : Nat) : NOk (rFree r k).L := h.set k NS.nil
theorem NOk.place {L : List S58} (h : NOk L) (k : Nat) {x : S58} (hx : NS x.f3) : NOk (placeL L k x) := by
  unfold placeL
  split
  · exact h.set k hx
  · intro i
    unfold at_
    rw [List.getD_eq_getElem?_getD, List.getElem?_append]
    split
    · have := h i
      unfold at_ at this
      rwa [List.getD_eq_getElem?_getD] at this
    · cases hj : i - L.length with
      | zero => exact hx
      | succ j => exact NS.nil
theorem last_no {l : List ByteArray} (h : ∀ n ∈ l, nameOk n = true ∧ n ≠ ByteArray.empty) : NO1 (l.getLastD ByteArray.empty) := by
  cases l with
  | nil => exact .inl rfl
  | cons a l =>
    right
    rw [List.getLastD_cons]
    have : (l.getLastD a) ∈ a :: l := by
      rw [List.getLastD_eq_getLast?]
      cases hl : l.getLast? with
      | none => simp
      | some x => simp [List.mem_of_getLast? hl]
    exact (h _ this).1
theorem NOk.make {r : RS} (h : NOk r.L) {l : List ByteArray} (hl : NO1 (l.getLastD ByteArray.empty)) (dir : Bool) : NOk (rMake r l dir).1.L := by
  unfold rMake
  split
  · exact h
  · generalize walkL r.L l.dropLast 0 = q
    obtain ⟨a, e⟩ := q
    simp only
    split
    · exact h
    · split
      · exact h
      · split
        · exact h
        · split
          · exact h
          · exact (h.place _ NS.nil).setF3 _ ((h a).put hl _)
theorem NOk.append {r : RS} (h : NOk r.L) (l : List ByteArray) (b : List Int) : NOk (rAppend r l b).1.L := by
  unfold rAppend
  generalize walkL r.L l 0 = q
  obtain ⟨a, e⟩ := q
  simp only
  split
  · exact h
  · split
    · exact h
    · unfold rMore
      split
      · exact h
      · split
        · exact h
        · exact h.setF2 _ _
theorem NOk.cut {r : RS} (h : NOk r.L) (l : List ByteArray) (n : Int) : NOk (rCut r l n).1.L := by
  unfold rCut
  generalize walkL r.L l 0 = q
  obtain ⟨a, e⟩ := q
  simp only
  split
  · exact h
  · split
    · exact h
    · split
      · exact h
      · exact h.setF2 _ _
theorem NOk.remove {r : RS} (h : NOk r.L) (l : List ByteArray) (dir : Bool) : NOk (rRemove r l dir).1.L := by
  unfold rRemove
  generalize walkL r.L l 0 = q
  obtain ⟨a, e⟩ := q
  simp only
  split
  · exact h
  · split
    · exact h
    · split
      · exact h
      · split
        · exact h
        · exact (h.free a).setF3 _ ((h.free a _).take _)
theorem NOk.rename {r : RS} (h : NOk r.L) (l : List ByteArray) {m : List ByteArray} (hm : NO1 (m.getLastD ByteArray.empty)) : NOk (rRename r l m).1.L := by
  unfold rRename
  generalize walkL r.L l 0 = q
  obtain ⟨k, e⟩ := q
  simp only
  split
  · exact h
  · split
    · exact h
    · generalize walkL r.L m.dropLast 0 = q2
      obtain ⟨td, e2⟩ := q2
      simp only
      split
      · exact h
      · split
        · exact h
        · split
          · exact h
          · split
            · exact h
            · split
              · split
                · exact h
                · have h2 := (h.free (by assumption)).setF3 td (((h.free (by assumption)) td).swap (m.getLastD ByteArray.empty) ((k : Int) + 1))
                  exact h2.setF3 _ ((h2 _).take _)
              · split
                · exact h.setF3 _ ((h td).move _ hm)
                · split
                  · exact h
                  · have h2 := h.setF3 td ((h td).put hm ((k : Int) + 1))
                    exact h2.setF3 _ ((h2 _).take _)
theorem NOk.do_ {r : RS} (h : NOk r.L) (o : S35) : NOk (rDo o r).1.L := by
  unfold rDo
  split
  · exact h
  · have hok := splitP_ok o.f1
    generalize splitP o.f1 = q at hok
    obtain ⟨l, e⟩ := q
    simp only at hok ⊢
    split
    · exact h
    · split
      · exact h.make (last_no hok) _
      · split
        · exact h.make (last_no hok) _
        · split
          · exact h.append _ _
          · split
            · exact h.cut _ _
            · split
              · exact h.remove _ _
              · split
                · exact h.remove _ _
                · have hok2 := splitP_ok o.f2
                  generalize splitP o.f2 = q2 at hok2
                  obtain ⟨m, e2⟩ := q2
                  simp only at hok2 ⊢
                  split
                  · exact h
                  · exact h.rename _ (last_no hok2)
theorem new_nok (bl ino : Int) : NOk [(⟨true, true, [], []⟩ : S58)] := fun i => by
  cases i with
  | zero => exact NS.nil
  | succ i => exact NS.nil
/-- no way is as long as there are things -/
theorem way_short {L : List S58} {way : Nat → List ByteArray} (hG : Good L way) {j : Nat} (hj : Live L j) : (way j).length < L.length := by
  have h : ∀ k, k ≤ (way j).length → ∃ i, Live L i ∧ (way i).length = k := fun k hk => by
    obtain ⟨i, hi, hw, _⟩ := hG.above ((way j).drop k) ((way j).take k) j hj (List.take_append_drop k _).symm
    exact ⟨i, hi, by rw [hw, List.length_take]; omega⟩
  have h2 : (List.range ((way j).length + 1)) ⊆ (List.range L.length).map (fun i => (way i).length) := fun k hk => by
    obtain ⟨i, hi, rfl⟩ := h k (by have := List.mem_range.1 hk; omega)
    exact List.mem_map.2 ⟨i, List.mem_range.2 (live_lt hi), rfl⟩
  have := List.Nodup.length_le_of_subset List.nodup_range h2
  simp at this
  omega
def pathL (l : List ByteArray) : List UInt8 := l.flatMap fun n => 47 :: n.data.toList
theorem walkN_path {L : List S58} {way : Nat → List ByteArray} (hG : Good L way) : ∀ (d i : Nat) (p : ByteArray), Live L i → p.data.toList = pathL (way i) → ∀ x ∈ walkN d L i p, x.1.data.toList = pathL (way x.2)
  | 0, _, _, _, _, x, hx => by simp [walkN] at hx
  | d + 1, i, p, hi, hp, x, hx => by
    unfold walkN at hx
    obtain ⟨n, hn, hx⟩ := List.mem_flatMap.1 hx
    cases hw : whose (at_ L i).f3 n with
    | none => rw [hw] at hx; simp at hx
    | some k =>
      rw [hw] at hx
      obtain ⟨hk, hwk, _⟩ := kid_ne hG hi hw
      have hpk : (joinP p n).data.toList = pathL (way k) := by
        rw [hwk]
        unfold joinP pathL at *
        simp [hp]
      rcases List.mem_cons.1 hx with rfl | hx
      · exact hpk
      · exact walkN_path hG d k _ hk hpk x hx
theorem splitOn_no47 : ∀ (l t : List UInt8), (∀ c ∈ l, c ≠ 47) → splitOn (l ++ t) = match splitOn t with | [] => [l] | h :: u => (l ++ h) :: u
  | [], t, _ => by
    have := (splitOn_len t).1
    cases hs : splitOn t with
    | nil => rw [hs] at this; simp at this
    | cons h u => simp [hs]
  | c :: l, t, h => by
    have hc : c ≠ 47 := h c (by simp)
    rw [List.cons_append]
    have e : splitOn (c :: (l ++ t)) = match splitOn (l ++ t) with | [] => [[c]] | h :: t => (c :: h) :: t := by
      conv => lhs; unfold splitOn
      rw [if_neg hc]
      cases splitOn (l ++ t) <;> rfl
    rw [e, splitOn_no47 l t (fun x hx => h x (by simp [hx]))]
    cases splitOn t with
    | nil => rfl
    | cons h u => rfl
theorem splitOn_path : ∀ (l : List ByteArray) (n : ByteArray), (∀ m ∈ n :: l, ∀ c ∈ m.data.toList, c ≠ 47) → splitOn (n.data.toList ++ pathL l) = (n :: l).map fun m => m.data.toList
  | [], n, h => by
    have : pathL [] = [] := rfl
    rw [this, splitOn_no47 _ _ (h n (by simp))]
    simp [splitOn]
  | m :: l, n, h => by
    have e : pathL (m :: l) = 47 :: (m.data.toList ++ pathL l) := by unfold pathL; simp
    have ih := splitOn_path l m (fun x hx => h x (by simp only [List.mem_cons] at hx ⊢; exact .inr hx))
    have e2 : splitOn (47 :: (m.data.toList ++ pathL l)) = [] :: splitOn (m.data.toList ++ pathL l) := by
      conv => lhs; unfold splitOn
      rw [if_pos rfl]
    rw [e, splitOn_no47 _ _ (h n (by simp)), e2, ih]
    simp
theorem nameOk_no47 {n : ByteArray} (h : nameOk n = true) : ∀ c ∈ n.data.toList, c ≠ 47 := fun c hc e => by
  rw [nameOk_eq] at h
  simp only [Bool.and_eq_true, List.all_eq_true] at h
  have := h.2 c hc
  subst e
  revert this
  decide
/-- a path that can be read leads to its names -/
theorem splitP_path {l : List ByteArray} {p : ByteArray} (hl : l ≠ []) (hn : ∀ n ∈ l, nameOk n = true) (hp : p.data.toList = pathL l) (h0 : (splitP p).2 = 0) : (splitP p).1 = l := by
  obtain ⟨n, l, rfl⟩ : ∃ n k, l = n :: k := by cases l with | nil => exact absurd rfl hl | cons n k => exact ⟨n, k, rfl⟩
  have e : pathL (n :: l) = 47 :: (n.data.toList ++ pathL l) := by unfold pathL; simp
  have hs := splitOn_path l n (fun m hm => nameOk_no47 (hn m hm))
  have hnn : n.data.toList ≠ [] := fun h => by
    have := hn n (by simp)
    rw [nameOk_eq, size_len, h] at this
    revert this
    simp
  unfold splitP at h0 ⊢
  by_cases h1 : p.size > 256
  · rw [if_pos h1] at h0; cases h0
  · rw [if_neg h1] at h0 ⊢
    rw [hp, e] at h0 ⊢
    simp only [ne_eq, not_true_eq_false, if_false] at h0 ⊢
    rw [if_neg (by simp [hnn])] at h0 ⊢
    rw [hs] at h0 ⊢
    have hb : ((n :: l).map fun m => m.data.toList).map (fun x => (⟨x.toArray⟩ : ByteArray)) = n :: l := by
      rw [List.map_map]
      have : ((fun x : List UInt8 => (⟨x.toArray⟩ : ByteArray)) ∘ fun b : ByteArray => b.data.toList) = id := by
        funext b
        simp
      rw [this, List.map_id]
    rw [hb] at h0 ⊢
    split at h0
    · rename_i h2
      rw [if_pos h2]
      split at h0
      · cases h0
      · rename_i h3
        rw [if_neg h3]
    · cases h0
theorem way_names {L : List S58} {way : Nat → List ByteArray} (hG : Good L way) (hN : NOk L) : ∀ (m j : Nat), (way j).length = m → Live L j → ∀ n ∈ way j, nameOk n = true := by
  intro m
  induction m with
  | zero => intro j h _ n hn; rw [List.eq_nil_of_length_eq_zero h] at hn; cases hn
  | succ m ih =>
    intro j h hj n hn
    have hj0 : j ≠ 0 := fun e => by rw [e, hG.root.2.2] at h; cases h
    obtain ⟨i, hi, _, e, he, rfl⟩ := hG.up j hj hj0
    have hw := (hG.kid i hi e he).2.2
    rw [hw] at hn h
    rcases List.mem_append.1 hn with h1 | h1
    · exact ih i (by simpa using h) hi n h1
    · rw [List.mem_singleton.1 h1]
      exact (hN i).named he
/-- what reading a row's path tells is the row's bytes, if it tells any -/
theorem read_row {L : List S58} {way : Nat → List ByteArray} (hG : Good L way) (hN : NOk L) (d : Nat) {x : ByteArray × Nat} (hx : x ∈ walkN d L 0 ByteArray.empty) (h0 : (readOf L x.1).2 = 0) : (readOf L x.1).1 = (at_ L x.2).f2 := by
  obtain ⟨hl, n, s, hws⟩ := walkN_mem hG d 0 _ hG.root.1 x hx
  have hp := walkN_path hG d 0 ByteArray.empty hG.root.1 (by rw [hG.root.2.2]; rfl) x hx
  have hne : way x.2 ≠ [] := by rw [hws]; simp
  unfold readOf at h0 ⊢
  cases hlk : lookOf L x.1 with
  | mk o e =>
    rw [hlk] at h0
    cases o with
    | none =>
      have := lookOf_none (L := L) (p := x.1) (by rw [hlk])
      rw [hlk] at this
      exact absurd h0 this
    | some i =>
      obtain ⟨hi, hwi, h2⟩ := lookOf_live hG (p := x.1) (i := i) (by rw [hlk])
      have hsp : (splitP x.1).2 = 0 := by
        unfold lookOf at hlk
        by_cases h1 : (splitP x.1).2 ≠ 0
        · rw [if_pos h1] at hlk; cases hlk
        · simpa using h1
      rw [splitP_path hne (way_names hG hN _ _ rfl hl) hp hsp] at hwi
      have := hG.inj i x.2 hi hl hwi
      subst this
      simp only at h0 ⊢
      split at h0
      · cases h0
      · rename_i h; rw [if_neg h]
end Go.Proofs.YtmjhflmkgmfjkaaGreatDoor
namespace Go.Proofs.YtmjhflmkgmfjkaaGreatDoor
open Go.RowKit Go.Maps Go.Sort Go.Proofs.YtmjhflmkgmfjkaaGreatDoorW.PrintWords Go.Proofs.YtmjhflmkgmfjkaaGreatDoorW.PrintMore
open PTreeTwins (S58 S106 S35 S76 S78 z58 z106 z78 k58 k106)
/-- block k holds neither bytes nor slots -/
def NoRow (w : World) (k : Nat) : Prop := ∀ cs ty fr, w.heap[k]? = some (.cells cs ty fr) → ty ≠ 5 ∧ ty ≠ 106
theorem NoRow.noB {w : World} {k : Nat} (h : NoRow w k) : NoB w k := fun cs fr e => (h _ _ _ e).1 rfl
theorem RefAt.lts {w : World} {q b : Nat} {r : RS} (h : RefAt w q b r) : q < w.heap.size ∧ b < w.heap.size := by
  obtain ⟨cap, hbox, hrow⟩ := h.row
  exact ⟨hbox.lt, h.row_lt⟩
theorem ref_keeps {w w' : World} {q b : Nat} {r : RS} {S : Nat → Prop} (h : RefAt w q b r) (hk : Keeps S w w') (hq : ¬ S q) (hb : ¬ S b) (hS : ∀ k, S k → k < w.heap.size → NoRow w k) : RefAt w' q b r := by
  obtain ⟨cap, hbox, hrow⟩ := h.row
  refine ⟨cap, hk.blk hbox hq, ?_⟩
  have hlt := h.row_lt
  obtain ⟨hok, inner, hown, hr⟩ := hrow
  refine ⟨hok, inner, own_move hown (fun k hk' => ?_), hr.imp_ (fun _ _ hp => ?_)⟩
  · have : k = b := by simpa [Value.ownBlock, eq_comm] using hk'
    subst this
    exact hk.block k hlt hb
  · refine k58.M_mono (fun k hk => hk.1) (k58.M_move (fun k hk' => ?_) (k58.M_bound hp))
    obtain ⟨_, _, hlt', q', hq', cells, hc⟩ := hk'
    refine hk.block k hlt' (fun hs => ?_)
    have : q' = 5 ∨ q' = 106 := by
      have he : ∀ q, q ∈ k58.E → q = 5 ∨ q = 106 := by decide
      exact he q' hq'
    have h2 := hS k hs hlt' _ _ _ hc
    rcases this with e | e
    · exact h2.1 e
    · exact h2.2 e
/-- what the document's tree writes holds no row -/
theorem RefAt.noRow {w : World} {q b : Nat} {r : RS} (h : RefAt w q b r) : ∀ k, (k = q ∨ k = b) → NoRow w k := by
  obtain ⟨cap, hbox, hrow⟩ := h.row
  rintro k (rfl | rfl) cs ty fr e
  · unfold RBox at hbox
    rw [hbox] at e; cases e; decide
  · obtain ⟨hok, inner, hown, hr⟩ := hrow
    obtain ⟨cells, hc⟩ := own_typed hown k (by simp [Value.ownBlock])
    rw [hc] at e; cases e; decide
/-- what the implementation's tree writes: nodes, maps, the tree's block -/
def OwnTy (w : World) (k : Nat) : Prop := (∃ cs ty, w.heap[k]? = some (.cells cs ty (0, 0)) ∧ (ty = 55 ∨ ty = 85)) ∨ ∃ es c, w.heap[k]? = some (.map es c)
theorem ImplAt.own_ty {w : World} {t : Nat} {f g : Nat → Nat} {r : RS} (h : ImplAt w t f g r) {k : Nat} (hk : Own t f g r.L k) : OwnTy w k := by
  rcases hk with rfl | ⟨i, hi, rfl | ⟨hd, rfl⟩⟩
  · exact .inl ⟨_, _, h.tree, .inl rfl⟩
  · obtain ⟨_, _, _, hn⟩ := (h.node i hi).head
    exact .inl ⟨_, _, hn, .inr rfl⟩
  · obtain ⟨hn, kv, hm, hp⟩ := (h.node i hi).1 hd
    obtain ⟨es, c, he, _⟩ := hm.obj
    exact .inr ⟨es, c, he⟩
theorem OwnTy.noRow {w : World} {k : Nat} (h : OwnTy w k) : NoRow w k := fun cs ty fr e => by
  rcases h with ⟨_, _, h1, h2⟩ | ⟨_, _, h1⟩
  · rw [h1] at e; cases e
    rcases h2 with rfl | rfl <;> decide
  · rw [h1] at e; cases e
theorem OwnTy.lt {w : World} {k : Nat} (h : OwnTy w k) : k < w.heap.size := by
  rcases h with ⟨_, _, h1, _⟩ | ⟨_, _, h1⟩ <;> exact (Array.getElem?_eq_some_iff.1 h1).1
/-- the two sides' own blocks differ -/
theorem own_ref {w : World} {t q b : Nat} {f g : Nat → Nat} {r r2 : RS} (hI : ImplAt w t f g r) (hR : RefAt w q b r2) {k : Nat} (hk : Own t f g r.L k) : k ≠ q ∧ k ≠ b := by
  have ht := hI.own_ty hk
  obtain ⟨cap, hbox, hok, inner, hown, hr⟩ := hR.row
  obtain ⟨cells, hc⟩ := own_typed hown b (by simp [Value.ownBlock])
  unfold RBox at hbox
  constructor
  · rintro rfl
    rcases ht with ⟨_, _, h1, h2⟩ | ⟨_, _, h1⟩
    · rw [hbox] at h1; cases h1; rcases h2 with e | e <;> revert e <;> decide
    · rw [hbox] at h1; cases h1
  · rintro rfl
    rcases ht with ⟨_, _, h1, h2⟩ | ⟨_, _, h1⟩
    · rw [hc] at h1; cases h1; rcases h2 with e | e <;> revert e <;> decide
    · rw [hc] at h1; cases h1
theorem impl_keeps {w w' : World} {t : Nat} {f g : Nat → Nat} {r : RS} {S : Nat → Prop} (h : ImplAt w t f g r) (hk : Keeps S w w') (hS : ∀ k, S k → k < w.heap.size → NoRow w k) (ho : ∀ k, Own t f g r.L k → ¬ S k) : ImplAt w' t f g r :=
  ⟨hk.blk h.tree (ho t (.inl rfl)), fun i hi => (h.node i hi).keeps' hk (fun k a b => (hS k a b).noB) (ho _ (.inr ⟨i, hi, .inl rfl⟩)) (fun hd => ho _ (.inr ⟨i, hi, .inr ⟨hd, rfl⟩⟩)), h.inj, h.injm⟩
/-- a refused act changes nothing -/
def Ok0 (r : RS) (x : RS × Int) : Prop := x.2 = 0 ∨ x.1 = r
theorem ok0_make (r : RS) (l : List ByteArray) (d : Bool) : Ok0 r (rMake r l d) := by
  unfold rMake
  repeat' split
  all_goals first | exact .inr rfl | exact .inl rfl
theorem ok0_append (r : RS) (l : List ByteArray) (b : List Int) : Ok0 r (rAppend r l b) := by
  unfold rAppend rMore
  repeat' split
  all_goals first | exact .inr rfl | exact .inl rfl
theorem ok0_cut (r : RS) (l : List ByteArray) (n : Int) : Ok0 r (rCut r l n) := by
  unfold rCut
  repeat' split
  all_goals first | exact .inr rfl | exact .inl rfl
theorem ok0_remove (r : RS) (l : List ByteArray) (d : Bool) : Ok0 r (rRemove r l d) := by
  unfold rRemove
  repeat' split
  all_goals first | exact .inr rfl | exact .inl rfl
theorem ok0_rename (r : RS) (l m : List ByteArray) : Ok0 r (rRename r l m) := by
  unfold rRename
  repeat' split
  all_goals first | exact .inr rfl | exact .inl rfl
theorem ok0_do (o : S35) (r : RS) : Ok0 r (rDo o r) := by
  unfold rDo
  repeat' split
  all_goals first | exact .inr rfl | exact ok0_make _ _ _ | exact ok0_append _ _ _ | exact ok0_cut _ _ _ | exact ok0_remove _ _ _ | exact ok0_rename _ _ _
theorem rDo_err (o : S35) (r : RS) (h : (rDo o r).2 ≠ 0) : (rDo o r).1 = r := (ok0_do o r).resolve_left h
/-- both sides' trees -/
structure Both (w : World) (B : Nat) (t : Nat) (f g : Nat → Nat) (q b : Nat) (r : RS) (N : Nat) : Prop where
  impl : ImplAt w t f g r
  ref : RefAt w q b r
  good : ∃ way, Good r.L way
  lim : Lim r N
  nok : NOk r.L
  own : ∀ k, Own t f g r.L k → B ≤ k
  qb : B ≤ q ∧ B ≤ b
/-- the state behind an act of both -/
structure Acted (w w2 : World) (B : Nat) (t : Nat) (f g : Nat → Nat) (q b : Nat) (r r' : RS) (N : Nat) : Prop where
  both : ∃ f' g' b', Both w2 B t f' g' q b' r' N ∧ (∀ k, Own t f' g' r'.L k → Own t f g r.L k ∨ w.heap.size ≤ k) ∧ (b' = b ∨ w.heap.size ≤ b')
  keep : Keeps (fun k => Own t f g r.L k ∨ k = q ∨ k = b) w w2
theorem Both.act {w w1 w2 : World} {B t q b N : Nat} {f g : Nat → Nat} {r : RS} (h : Both w B t f g q b r N) (hN : N + 1 ≤ 2000) (hB : B ≤ w.heap.size) (o : S35) (h1 : (rDo o r).2 = 0 → Did w t f g r (rDo o r).1 w1) (h1' : (rDo o r).2 ≠ 0 → Below w.heap.size w w1) (h2 : DidR w1 q b (rDo o r).1 w2) :
    Acted w w2 B t f g q b r (rDo o r).1 (N + 1) := by
  obtain ⟨way, hG⟩ := h.good
  have hD : Did w t f g r (rDo o r).1 w1 := by
    by_cases he : (rDo o r).2 = 0
    · exact h1 he
    · rw [rDo_err o r he]
      have hb := h1' he
      exact ⟨f, g, h.impl.below hb, Keeps.of_below hb, fun k hk => .inl hk⟩
  obtain ⟨f', g', hI, hk, hown⟩ := hD
  obtain ⟨b', hR, hk2, hb'⟩ := h2
  have hNR : ∀ k, (k = q ∨ k = b) → k < w1.heap.size → NoRow w1 k := fun k hkk hlt cs ty fr e => by
    have hkw : k < w.heap.size := by
      have := h.ref.lts
      rcases hkk with rfl | rfl
      · exact this.1
      · exact this.2
    rw [hk.block k hkw (fun ho => by have := own_ref h.impl h.ref ho; rcases hkk with e | e; exact this.1 e; exact this.2 e)] at e
    exact h.ref.noRow k hkk cs ty fr e
  have hOq : ∀ k, Own t f' g' (rDo o r).1.L k → ¬ (k = q ∨ k = b) := fun k ho hkk => by
    have hlt := h.ref.lts
    rcases hown k ho with h3 | h3
    · have := own_ref h.impl h.ref h3
      rcases hkk with e | e
      · exact this.1 e
      · exact this.2 e
    · rcases hkk with e | e <;> omega
  have hI2 := impl_keeps hI hk2 hNR hOq
  refine ⟨⟨f', g', b', ⟨hI2, hR, ?_, ?_, h.nok.do_ o, fun k hk => ?_, h.qb.1, ?_⟩, hown, ?_⟩, ?_⟩
  · rw [← iPlan_eq hG h.lim.bl0]; exact good_plan hG o
  · rw [← iPlan_eq hG h.lim.bl0]; exact lim_plan hG h.lim hN o
  · rcases hown k hk with h3 | h3
    · exact h.own k h3
    · omega
  · rcases hb' with e | e
    · rw [e]; exact h.qb.2
    · have := hk.size; omega
  · rcases hb' with e | e
    · exact .inl e
    · exact .inr (Nat.le_trans hk.size e)
  · exact (hk.mono (fun k h => .inl h)).trans (hk2.mono (fun k h => .inr h))
end Go.Proofs.YtmjhflmkgmfjkaaGreatDoor
namespace Go.Proofs.YtmjhflmkgmfjkaaGreatDoor
open Go.RowKit Go.Maps Go.Sort Go.Proofs.YtmjhflmkgmfjkaaGreatDoorW.PrintWords Go.Proofs.YtmjhflmkgmfjkaaGreatDoorW.PrintMore
open PTreeTwins (S58 S106 S35 S76 S78 z58 z106 z78 k58 k106)
theorem Both.did {w w1 : World} {B t q b N : Nat} {f g : Nat → Nat} {r : RS} (h : Both w B t f g q b r N) (o : S35) (h1 : (rDo o r).2 = 0 → Did w t f g r (rDo o r).1 w1) (h1' : (rDo o r).2 ≠ 0 → Below w.heap.size w w1) : RefAt w1 q b r := by
  have hk : Keeps (Own t f g r.L) w w1 := by
    by_cases he : (rDo o r).2 = 0
    · exact (h1 he).choose_spec.choose_spec.2.1
    · exact Keeps.of_below (h1' he)
  exact ref_keeps h.ref hk (fun ho => (own_ref h.impl h.ref ho).1 rfl) (fun ho => (own_ref h.impl h.ref ho).2 rfl) (fun k hs _ => (h.impl.own_ty hs).noRow)
theorem Both.low1 {w w1 : World} {B t q b N : Nat} {f g : Nat → Nat} {r : RS} (h : Both w B t f g q b r N) (hB : B ≤ w.heap.size) (o : S35) (h1 : (rDo o r).2 = 0 → Did w t f g r (rDo o r).1 w1) (h1' : (rDo o r).2 ≠ 0 → Below w.heap.size w w1) : Below B w w1 := by
  by_cases he : (rDo o r).2 = 0
  · exact (h1 he).choose_spec.choose_spec.2.1.below hB h.own
  · exact (h1' he).mono hB
theorem Acted.low {w w2 : World} {B t q b N N' : Nat} {f g : Nat → Nat} {r r' : RS} (h : Acted w w2 B t f g q b r r' N) (hb : Both w B t f g q b r N') (hB : B ≤ w.heap.size) : Below B w w2 :=
  h.keep.below hB (fun k hk => by
    rcases hk with hk | rfl | rfl
    · exact hb.own k hk
    · exact hb.qb.1
    · exact hb.qb.2)
theorem DidR.later {w w1 w2 : World} {q b : Nat} {r' : RS} (hb : Below w.heap.size w w1) (h : DidR w1 q b r' w2) : DidR w q b r' w2 := DidR.trans (Keeps.of_below hb) (.inl rfl) h
/-- the others -/
structure Others (w : World) (t : Nat) (f g : Nat → Nat) (q b : Nat) (r : RS) (u : Nat) (fu gu : Nat → Nat) (q0 b0 : Nat) (r1 : RS) : Prop where
  impl : ImplAt w u fu gu r1
  ref : RefAt w q0 b0 r1
  sep : ∀ k, Own u fu gu r1.L k → ¬ Own t f g r.L k
  qn : q0 ≠ q
  bn : b0 ≠ b
theorem ref_ne {w : World} {q b q0 b0 : Nat} {r r1 : RS} (h : RefAt w q b r) (h0 : RefAt w q0 b0 r1) : q0 ≠ b := by
  obtain ⟨cap, hbox, _⟩ := h0.row
  obtain ⟨cap2, _, hok, inner, hown, hr⟩ := h.row
  obtain ⟨cells, hc⟩ := own_typed hown b (by simp [Value.ownBlock])
  unfold RBox at hbox
  rintro rfl
  rw [hbox] at hc; cases hc
theorem Others.act {w w2 : World} {B t q b N N' : Nat} {f g : Nat → Nat} {r r' : RS} {u q0 b0 : Nat} {fu gu : Nat → Nat} {r1 : RS} (h : Others w t f g q b r u fu gu q0 b0 r1) (hb : Both w B t f g q b r N') (ha : Acted w w2 B t f g q b r r' N) :
    ∃ f' g' b', Both w2 B t f' g' q b' r' N ∧ Others w2 t f' g' q b' r' u fu gu q0 b0 r1 := by
  obtain ⟨⟨f', g', b', hB2, hown, hb'⟩, hk⟩ := ha
  have hS : ∀ k, (Own t f g r.L k ∨ k = q ∨ k = b) → k < w.heap.size → NoRow w k := fun k hs _ => by
    rcases hs with hs | hs
    · exact (hb.impl.own_ty hs).noRow
    · exact hb.ref.noRow k hs
  have hlt := h.ref.lts
  refine ⟨f', g', b', hB2, ?_, ?_, ?_, h.qn, ?_⟩
  · refine impl_keeps h.impl hk hS (fun k ho hs => ?_)
    rcases hs with hs | rfl | rfl
    · exact h.sep k ho hs
    · exact (own_ref h.impl hb.ref ho).1 rfl
    · exact (own_ref h.impl hb.ref ho).2 rfl
  · refine ref_keeps h.ref hk (fun hs => ?_) (fun hs => ?_) hS
    · rcases hs with hs | hs | hs
      · exact (own_ref hb.impl h.ref hs).1 rfl
      · exact h.qn hs
      · exact ref_ne hb.ref h.ref hs
    · rcases hs with hs | hs | hs
      · exact (own_ref hb.impl h.ref hs).2 rfl
      · exact ref_ne h.ref hb.ref hs.symm
      · exact h.bn hs
  · intro k ho ht
    rcases hown k ht with h1 | h1
    · exact h.sep k ho h1
    · have := (h.impl.own_ty ho).lt; omega
  · rcases hb' with e | e
    · rw [e]; exact h.bn
    · omega
theorem few_l0 (l : List S35) (hl : l.length ≤ 150) : ∀ (n k i : Nat) (s : Int), i + n = l.length → n < k → 0 ≤ s → s ≤ 8192 * i → ∃ b, PTreeTwins.mailbaglaw11_Few.l0 k l s (i : Int) = some b ∧ (b = true → ∀ j, i ≤ j → j < l.length → (PTreeTwins.rd_T35 l j).f3.length ≤ 8192) := by
  intro n
  induction n with
  | zero =>
    intro k i s hi hk h0 h1
    obtain ⟨k, rfl⟩ : ∃ m, k = m + 1 := ⟨k - 1, by omega⟩
    unfold PTreeTwins.mailbaglaw11_Few.l0
    rw [if_neg (by omega)]
    exact ⟨_, rfl, fun _ j h2 h3 => by omega⟩
  | succ n ih =>
    intro k i s hi hk h0 h1
    obtain ⟨k, rfl⟩ : ∃ m, k = m + 1 := ⟨k - 1, by omega⟩
    unfold PTreeTwins.mailbaglaw11_Few.l0
    rw [if_pos (by omega), if_pos (by omega)]
    split
    · exact ⟨_, rfl, fun h => by cases h⟩
    · split
      · exact ⟨_, rfl, fun h => by cases h⟩
      · split
        · exact ⟨_, rfl, fun h => by cases h⟩
        · rename_i g1 _ _
          have e1 : wrap64 (s + ((PTreeTwins.rd_T35 l (i : Int)).f3.length : Int)) = s + ((PTreeTwins.rd_T35 l (i : Int)).f3.length : Int) := by unfold wrap64; omega
          have e2 : wrap64 ((i : Int) + 1) = ((i + 1 : Nat) : Int) := by unfold wrap64; omega
          rw [e1, e2]
          obtain ⟨b, hb, hj⟩ := ih k (i + 1) (s + ((PTreeTwins.rd_T35 l (i : Int)).f3.length : Int)) (by omega) (by omega) (by omega) (by omega)
          refine ⟨b, hb, fun ht j h2 h3 => ?_⟩
          rcases Nat.lt_or_ge i j with h4 | h4
          · exact hj ht j h4 h3
          · have : j = i := by omega
            subst this
            omega
theorem few_some (l : List S35) : ∃ b, PTreeTwins.mailbaglaw11_Few.f 200 l = some b ∧ (b = true → l.length ≤ 150 ∧ ∀ j, j < l.length → (PTreeTwins.rd_T35 l (j : Int)).f3.length ≤ 8192) := by
  unfold PTreeTwins.mailbaglaw11_Few.f
  split
  · exact ⟨_, rfl, fun h => by cases h⟩
  · obtain ⟨b, hb, hj⟩ := few_l0 l (by omega) l.length 200 0 0 (by omega) (by omega) (Int.le_refl _) (by omega)
    exact ⟨b, hb, fun ht => ⟨by omega, fun j h => hj ht j (Nat.zero_le _) h⟩⟩
end Go.Proofs.YtmjhflmkgmfjkaaGreatDoor
