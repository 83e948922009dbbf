/- A part of the proof: Y1, Y2, Y3, Y4, Y5, Y6, Y7. -/
import Derived.Test.YtmjhflmkgmfjkaaGreatDoorAi
import Derived.Test.YtmjhflmkgmfjkaaGreatDoorPb
set_option linter.unusedVariables false
set_option linter.unusedSimpArgs false
namespace Go.Proofs.YtmjhflmkgmfjkaaGreatDoor
open Go.RowKit Go.Proofs.YtmjhflmkgmfjkaaGreatDoorW.PrintWords Go.Proofs.YtmjhflmkgmfjkaaGreatDoorW.PrintMore
open PTreeTwins (S58 S106 S35 z58 z106 rd_T106)
def atI (s : List S106) (n : ByteArray) : Int := match atS s n with | some j => (j : Int) | none => -1
/-- the first place at or behind i -/
def atFrom (s : List S106) (n : ByteArray) (i : Nat) : Int := match (s.drop i).findIdx? (fun e => decide (e.f0 = n)) with | some j => ((i + j : Nat) : Int) | none => -1
theorem rd106 (s : List S106) (i : Nat) (h : i < s.length) : rd_T106 s (i : Int) = s[i] := by
  unfold PTreeTwins.rd_T106
  rw [Int.toNat_natCast, List.getD_eq_getElem?_getD, List.getElem?_eq_getElem h]; rfl
theorem at_l0 (s : List S106) (n : ByteArray) (hn : n ≠ ByteArray.empty) (hb : s.length ≤ 9223372036854775806) : ∀ (d k i : Nat), i + d = s.length → 2 * d + 2 ≤ k → PTreeTwins.mailbagref9_At.l0 k s n (i : Int) = some (atFrom s n i)
  | d, 0, i, _, h => by omega
  | d, 1, i, _, h => by omega
  | d, k + 1 + 1, i, hi, hk => by
    have hne : (n.toList != ([] : List UInt8)) = true := by
      rw [bne_iff_ne]
      intro e
      rw [ByteArray.toList_eq] at e
      exact hn (ByteArray.ext (Array.toList_inj.1 (by rw [e]; rfl)))
    unfold PTreeTwins.mailbagref9_At.l0
    cases d with
    | zero =>
      rw [if_neg (by omega)]
      unfold PTreeTwins.mailbagref9_At.j1 atFrom
      rw [if_neg (by decide), List.drop_eq_nil_of_le (by omega)]; rfl
    | succ d =>
      have h0 : i < s.length := by omega
      rw [if_pos (by omega), hne]
      unfold PTreeTwins.mailbagref9_At.j1
      rw [if_pos rfl, if_pos (by omega), if_pos (by omega), rd106 s i h0]
      have hdr : atFrom s n i = if (s[i]).f0 = n then (i : Int) else atFrom s n (i + 1) := by
        unfold atFrom
        rw [List.drop_eq_getElem_cons h0, List.findIdx?_cons]
        by_cases h : (s[i]).f0 = n
        · rw [if_pos h, decide_eq_true h]; simp
        · rw [if_neg h, decide_eq_false h]
          simp only [Bool.false_eq_true, if_false]
          cases (s.drop (i + 1)).findIdx? (fun e => decide (e.f0 = n)) with
          | none => rfl
          | some j => simp; omega
      rw [hdr]
      by_cases h : (s[i]).f0 = n
      · rw [if_pos (by rw [h]), if_pos h]
      · rw [if_neg (fun e => h (by rw [ba_toList] at e; exact e)), if_neg h, wrap_in _ (by omega) (by omega)]
        have := at_l0 s n hn hb d k (i + 1) (by omega) (by omega)
        rw [show ((i : Int) + 1) = ((i + 1 : Nat) : Int) from by omega]
        exact this
theorem at_f (s : List S106) (n : ByteArray) (hb : s.length ≤ 9223372036854775806) (k : Nat) (hk : 2 * s.length + 2 ≤ k) : PTreeTwins.mailbagref9_At.f k s n = some (atI s n) := by
  unfold PTreeTwins.mailbagref9_At.f atI atS
  by_cases hn : n = ByteArray.empty
  · rw [if_pos hn]
    subst hn
    obtain ⟨k, rfl⟩ : ∃ j, k = j + 1 + 1 := ⟨k - 2, by omega⟩
    unfold PTreeTwins.mailbagref9_At.l0
    have he : (ByteArray.empty.toList != ([] : List UInt8)) = false := by rw [ByteArray.toList_eq]; rfl
    rw [he]
    split
    · unfold PTreeTwins.mailbagref9_At.j1; rfl
    · unfold PTreeTwins.mailbagref9_At.j1; rfl
  · rw [if_neg hn]
    have := at_l0 s n hn hb s.length k 0 (by omega) hk
    rw [show ((0 : Nat) : Int) = 0 from rfl] at this
    rw [this]
    unfold atFrom
    rw [List.drop_zero]
    cases s.findIdx? (fun e => decide (e.f0 = n)) with
    | none => rfl
    | some j => simp
theorem whose_at (s : List S106) (n : ByteArray) : whose s n = (atS s n).map fun j => eix (s.getD j z106) := by
  by_cases hn : n = ByteArray.empty
  · have h1 : atS s n = none := by unfold atS; rw [if_pos hn]
    rw [h1]
    unfold whose
    have : (named s).find? (fun e => decide (e.f0 = n)) = none := List.find?_eq_none.2 (fun x hx => by
      have := (named_mem.1 hx).2
      rw [hn]; simpa using this)
    rw [this]; rfl
  · cases hw : whose s n with
    | some k =>
      obtain ⟨j, hj, h1, h2⟩ := whose_atS hw hn
      have := (whose_entry hw hj h1 hn).1
      rw [h1]
      simp [List.getD_eq_getElem?_getD, List.getElem?_eq_getElem hj, this]
    | none =>
      cases ha : atS s n with
      | none => rfl
      | some j =>
        obtain ⟨hj, h1, _⟩ := atS_some ha
        unfold whose at hw
        rw [Option.map_eq_none_iff] at hw
        have := List.find?_eq_none.1 hw s[j] (named_mem.2 ⟨List.getElem_mem hj, by rw [h1]; exact hn⟩)
        simp [h1] at this
theorem size_f (s : List S106) (hb : s.length ≤ 1000000) : PTreeTwins.mailbagref9_Size.f s = some (slotsOf s * 512) := by
  unfold PTreeTwins.mailbagref9_Size.f
  have h1 : wrap64 ((s.length : Int) + 8) = (s.length : Int) + 8 := wrap_in _ (by omega) (by omega)
  have h2 : wrap64 ((s.length : Int) + 8 - 1) = (s.length : Int) + 7 := by rw [show (s.length : Int) + 8 - 1 = s.length + 7 by omega]; exact wrap_in _ (by omega) (by omega)
  rw [h1, h2]
  have h3 : Int.tdiv ((s.length : Int) + 7) 8 = slotsOf s := by
    rw [Int.tdiv_eq_ediv_of_nonneg (by omega)]
    unfold slotsOf
    omega
  have h4 : 0 ≤ slotsOf s ∧ slotsOf s ≤ 1000000 := by unfold slotsOf; omega
  rw [h3, wrap_in _ h4.1 (by omega), wrap_in _ (by omega) (by omega)]
end Go.Proofs.YtmjhflmkgmfjkaaGreatDoor
namespace Go.Proofs.YtmjhflmkgmfjkaaGreatDoor
open Go.RowKit Go.Proofs.YtmjhflmkgmfjkaaGreatDoorW.PrintWords Go.Proofs.YtmjhflmkgmfjkaaGreatDoorW.PrintMore
open PTreeTwins (S58 S106 S35 z58 z106 rd_T106)
theorem empty_list (n : ByteArray) : (n.toList = ([] : List UInt8)) ↔ n = ByteArray.empty := by
  rw [ByteArray.toList_eq]
  constructor
  · intro e; exact ByteArray.ext (Array.toList_inj.1 (by rw [e]; rfl))
  · intro e; subst e; rfl
/-- the first free place at or behind i -/
def freeFrom (s : List S106) (i : Nat) : Option Nat := ((s.drop i).findIdx? (fun e => decide (e.f0 = ByteArray.empty))).map fun j => i + j
theorem free_step (s : List S106) (i : Nat) (h0 : i < s.length) : freeFrom s i = if (s[i]).f0 = ByteArray.empty then some i else freeFrom s (i + 1) := by
  unfold freeFrom
  rw [List.drop_eq_getElem_cons h0, List.findIdx?_cons]
  by_cases h : (s[i]).f0 = ByteArray.empty
  · rw [if_pos h, decide_eq_true h]; simp
  · rw [if_neg h, decide_eq_false h]
    simp only [Bool.false_eq_true, if_false, Option.map_map]
    congr 1
    funext j; simp only [Function.comp]; omega
theorem put_l0 (s0 s : List S106) (n : ByteArray) (v : Int) (hb : s.length ≤ 999999) (hb0 : s0.length ≤ 1000000) (d : Nat) : ∀ (k i : Nat), i + d = s.length → d < k →
    ∃ x, PTreeTwins.mailbagref9_Put.l0 k s0 n v s (i : Int) = some ((match freeFrom s i with | some j => s.set j ⟨n, v⟩ | none => s ++ [⟨n, v⟩]), x, 0) := by
  induction d with
  | zero =>
    intro k i hi hk
    obtain ⟨k, rfl⟩ : ∃ j, k = j + 1 := ⟨k - 1, by omega⟩
    have hf : freeFrom s i = none := by unfold freeFrom; rw [List.drop_eq_nil_of_le (by omega)]; rfl
    have h1 := size_f (s ++ [⟨n, v⟩]) (by simp; omega)
    have h2 := size_f s0 hb0
    refine ⟨wrap64 (slotsOf (s ++ [⟨n, v⟩]) * 512 - slotsOf s0 * 512), ?_⟩
    unfold PTreeTwins.mailbagref9_Put.l0
    rw [if_neg (show ¬ (i : Int) < (s.length : Int) by omega), if_pos (show s.length < 5864062014805 by omega), hf]
    simp only [Option.bind_some, h1, h2]
  | succ d ih =>
    intro k i hi hk
    obtain ⟨k, rfl⟩ : ∃ j, k = j + 1 := ⟨k - 1, by omega⟩
    have h0 : i < s.length := by omega
    obtain ⟨x, hx⟩ := ih k (i + 1) (by omega) (by omega)
    rw [free_step s i h0]
    by_cases h : (s[i]).f0 = ByteArray.empty
    · refine ⟨0, ?_⟩
      unfold PTreeTwins.mailbagref9_Put.l0
      rw [if_pos (show (i : Int) < (s.length : Int) by omega), if_pos (show (0 : Int) ≤ (i : Int) by omega), rd106 s i h0, if_pos ((empty_list _).2 h), if_pos h]
      simp only [Int.toNat_natCast]
    · refine ⟨x, ?_⟩
      unfold PTreeTwins.mailbagref9_Put.l0
      rw [if_pos (show (i : Int) < (s.length : Int) by omega), if_pos (show (0 : Int) ≤ (i : Int) by omega), rd106 s i h0, if_neg (fun e => h ((empty_list _).1 e)), if_neg h, wrap_in _ (by omega) (by omega)]
      rw [show ((i : Int) + 1) = ((i + 1 : Nat) : Int) from by omega]
      exact hx
theorem put_f (s : List S106) (n : ByteArray) (v : Int) (hb : s.length ≤ 999999) (hn : nameOk n = true) (hno : atS s n = none) (h0 : 1 ≤ v) (h1 : v ≤ 65535) (k : Nat) (hk : 2 * s.length + 60 ≤ k) : ∃ x, PTreeTwins.mailbagref9_Put.f k s n v = some (putS s n v, x, 0) := by
  obtain ⟨k, rfl⟩ : ∃ j, k = j + 1 := ⟨k - 1, by omega⟩
  unfold PTreeTwins.mailbagref9_Put.f
  rw [refName_f n _ (by omega), hn]
  simp only [Option.bind_some, if_true]
  rw [if_neg (show ¬ v < 1 by omega)]
  have hd : decide (v > 65535) = false := by simp; omega
  rw [hd]
  simp only [PTreeTwins.mailbagref9_Put.j0]
  rw [if_neg (show ¬ (false = true) by decide), at_f s n (by omega) k (by omega)]
  have : atI s n = -1 := by unfold atI; rw [hno]
  rw [this]
  simp only [Option.bind_some]
  rw [if_neg (show ¬ ((-1 : Int) ≥ 0) by decide), if_pos (show ([] : List S106).length + s.length < 5864062014805 by simp; omega)]
  obtain ⟨x, hx⟩ := put_l0 s ([] ++ s) n v (by simpa using hb) (by omega) s.length k 0 (by simp) (by omega)
  rw [show ((0 : Nat) : Int) = 0 from rfl] at hx
  refine ⟨x, hx.trans ?_⟩
  simp only [List.nil_append]
  unfold putS freeFrom
  rw [List.drop_zero]
  cases s.findIdx? (fun e => decide (e.f0 = ByteArray.empty)) with
  | none => rfl
  | some j => simp
theorem take_f (s : List S106) (n : ByteArray) (hb : s.length ≤ 1000000) (j : Nat) (hj : atS s n = some j) (k : Nat) (hk : 2 * s.length + 60 ≤ k) : ∃ x, PTreeTwins.mailbagref9_Take.f k s n = some (takeS s n, x, 0) := by
  obtain ⟨hjl, _, _⟩ := atS_some hj
  unfold PTreeTwins.mailbagref9_Take.f
  rw [at_f s n (by omega) k (by omega)]
  have : atI s n = (j : Int) := by unfold atI; rw [hj]
  rw [this]
  simp only [Option.bind_some, List.nil_append]
  rw [if_neg (show ¬ (j : Int) < 0 by omega), if_pos (show ([] : List S106).length + s.length < 5864062014805 by simp; omega), if_pos (show (0 : Int) ≤ (j : Int) by omega), if_pos (show (j : Int) < (s.length : Int) by omega)]
  rw [if_pos (show (j : Int) < (s.length : Int) by omega)]
  refine ⟨(rd_T106 s (j : Int)).f1, ?_⟩
  unfold takeS
  rw [hj]
  simp only [Int.toNat_natCast]
  rfl
theorem move_f (s : List S106) (o n : ByteArray) (hb : s.length ≤ 1000000) (hn : nameOk n = true) (j : Nat) (hj : atS s o = some j) (hno : atS s n = none) (k : Nat) (hk : 2 * s.length + 60 ≤ k) : PTreeTwins.mailbagref9_Move.f k s o n = some (moveS s o n, 0) := by
  obtain ⟨hjl, _, _⟩ := atS_some hj
  unfold PTreeTwins.mailbagref9_Move.f
  rw [at_f s o (by omega) k (by omega), refName_f n _ (by omega), hn]
  have h1 : atI s o = (j : Int) := by unfold atI; rw [hj]
  have h2 : atI s n = -1 := by unfold atI; rw [hno]
  rw [h1]
  simp only [Option.bind_some, if_true, List.nil_append]
  rw [if_neg (show ¬ (j : Int) < 0 by omega)]
  have hne : ¬ n.toList = o.toList := fun e => by
    rw [ba_toList] at e
    rw [e, hj] at hno; cases hno
  rw [if_neg hne, at_f s n (by omega) k (by omega), h2]
  simp only [Option.bind_some]
  rw [if_neg (show ¬ ((-1 : Int) ≥ 0) by decide), if_pos (show ([] : List S106).length + s.length < 5864062014805 by simp; omega), if_pos (show (0 : Int) ≤ (j : Int) by omega), if_pos (show (j : Int) < (s.length : Int) by omega), rd106 s j hjl]
  unfold moveS
  rw [hj]
  simp only [Int.toNat_natCast]
  rw [List.getD_eq_getElem?_getD, List.getElem?_eq_getElem hjl]
  rfl
end Go.Proofs.YtmjhflmkgmfjkaaGreatDoor
namespace Go.Proofs.YtmjhflmkgmfjkaaGreatDoor
open Go.RowKit Go.Proofs.YtmjhflmkgmfjkaaGreatDoorW.PrintWords Go.Proofs.YtmjhflmkgmfjkaaGreatDoorW.PrintMore
open PTreeTwins (S58 S106 S35 z58 z106 k58 k106)
theorem rblocks_calls (n : Int) (w : World) (h0 : 0 ≤ n) (h1 : n ≤ 8458240) : Calls Tryz.prog 83 #[.int .i64 n] w fun e w' => e = .returned (.int .i64 (blk n)) ∧ w = w' := by
  have d1 : decide (n < 0) = false := by simp; omega
  have d2 : decide (8458240 < n) = false := by simp; omega
  go_enter Tryz.func83, Tryz.ntmps83
  go_wp2
  go_ret
  refine ⟨ret_i ?_, rfl⟩
  unfold blk
  omega
theorem rinner_calls (n : Int) (w : World) (h0 : 0 ≤ n) (h1 : n ≤ 8458240) : Calls Tryz.prog 84 #[.int .i64 n] w fun e w' => e = .returned (.int .i64 (innr (blk n))) ∧ w = w' := by
  have hb := blk_bd n h0 h1
  go_enter Tryz.func84, Tryz.ntmps84
  go_wp2_with (go_at_call 83; refine (rblocks_calls _ _ h0 h1).mono ?_; rintro e w' ⟨rfl, rfl⟩)
  all_goals (go_ret; exact ⟨ret_i (by unfold innr; split <;> (try split) <;> omega), rfl⟩)
theorem rall_calls (n : Int) (w : World) (h0 : 0 ≤ n) (h1 : n ≤ 8458240) : Calls Tryz.prog 48 #[.int .i64 n] w fun e w' => e = .returned (.int .i64 (allB n)) ∧ w = w' := by
  have hb := blk_bd n h0 h1
  have hi := innr_bd _ hb.1 hb.2
  go_enter Tryz.func48, Tryz.ntmps48
  go_wp2_with (first | (go_at_call 83; refine (rblocks_calls _ _ h0 h1).mono ?_; rintro e w' ⟨rfl, rfl⟩) | (go_at_call 84; refine (rinner_calls _ _ h0 h1).mono ?_; rintro e w' ⟨rfl, rfl⟩))
  go_ret
  exact ⟨ret_i (by unfold allB; rfl), rfl⟩
theorem rat_calls (A : Option Addr) (c : Nat) (s : List S106) (n : ByteArray) (w : World) (hs : Kd.C k106 w A s.length s) (hc : s.length ≤ c) (hb : s.length ≤ 1000000) : Calls Tryz.prog 44 #[.slice A s.length c, .string n] w fun e w' => e = .returned (.int .i64 (atI s n)) ∧ ∃ q, w' = w.drewN q :=
  (PTreeTwins.mailbagref9_At.calls (2 * s.length + 2) A c s n _ w hs hc (at_f s n (by omega) _ (Nat.le_refl _))).mono (fun e w' h => ⟨h.1, h.2.out⟩)
theorem rsize_calls (A : Option Addr) (c : Nat) (s : List S106) (w : World) (hs : Kd.C k106 w A s.length s) (hc : s.length ≤ c) (hb : s.length ≤ 1000000) : Calls Tryz.prog 82 #[.slice A s.length c] w fun e w' => e = .returned (.int .i64 (slotsOf s * 512)) ∧ ∃ q, w' = w.drewN q :=
  (PTreeTwins.mailbagref9_Size.calls A c s _ w hs hc (size_f s hb)).mono (fun e w' h => ⟨h.1, h.2.out⟩)
theorem rneed_calls (A : Option Addr) (c : Nat) (s : List S106) (w : World) (hs : Kd.C k106 w A s.length s) (hc : s.length ≤ c) (hb : s.length ≤ 3000) : Calls Tryz.prog 46 #[.slice A s.length c] w fun e w' => e = .returned (.int .i64 (needS s)) ∧ ∃ q, w' = w.drewN q := by
  have h1 := rsize_calls A c s w hs hc (by omega)
  have hb1 : 0 ≤ slotsOf s * 512 ∧ slotsOf s * 512 ≤ 8458240 := by unfold slotsOf; omega
  have hn : needS s = allB (slotsOf s * 512) := rfl
  rw [hn]
  clear hs hc
  go_enter Tryz.func46, Tryz.ntmps46
  go_wp2_with (first
    | (go_at_call 82; refine h1.mono ?_; rintro e w1 ⟨rfl, q, rfl⟩)
    | (go_at_call 48; refine (rall_calls _ _ hb1.1 hb1.2).mono ?_; rintro e w2 ⟨rfl, rfl⟩))
  go_ret
  exact ⟨rfl, q, rfl⟩
end Go.Proofs.YtmjhflmkgmfjkaaGreatDoor
namespace Go.Proofs.YtmjhflmkgmfjkaaGreatDoor
open Go.RowKit Go.Proofs.YtmjhflmkgmfjkaaGreatDoorW.PrintWords Go.Proofs.YtmjhflmkgmfjkaaGreatDoorW.PrintMore
open PTreeTwins (S58 S106 S35 z58 z106 k58 k106)
/-- the document's Tree's own block -/
def RBox (w : World) (q : Nat) (A : Option Addr) (n c : Nat) (bl ino : Int) : Prop := w.heap[q]? = some (.cells #[.slice A n c, .int .i64 bl, .int .i64 ino] 61 (0, 0))
theorem RBox.cells {w : World} {q : Nat} {A : Option Addr} {n c : Nat} {bl ino : Int} (h : RBox w q A n c bl ino) : w.cell? ⟨q, 0, none⟩ = some (.slice A n c) ∧ w.cell? ⟨q, 1, none⟩ = some (.int .i64 bl) ∧ w.cell? ⟨q, 2, none⟩ = some (.int .i64 ino) := by
  unfold RBox at h
  simp [World.cell?, h]
theorem RBox.frozen {w : World} {q : Nat} {A : Option Addr} {n c : Nat} {bl ino : Int} (h : RBox w q A n c bl ino) (o : Nat) : w.frozen? ⟨q, o, none⟩ = false := by
  unfold RBox at h
  simp [World.frozen?, h]
theorem rd58 (L : List S58) (i : Nat) : PTreeTwins.rd_T58 L (i : Int) = at_ L i := by
  unfold PTreeTwins.rd_T58 at_
  rw [Int.toNat_natCast]
set_option maxHeartbeats 2000000 in
set_option maxRecDepth 100000 in
theorem rwalk_calls (w : World) (q : Nat) (A : Option Addr) (c : Nat) (bl ino : Int) (L : List S58) (way : Nat → List ByteArray) (N : Nat) (hN : N ≤ 2000) (hG : Good L way) (hsl : ∀ i, (at_ L i).f3.length ≤ N) (hq : RBox w q A L.length c bl ino) (hL : Kd.C k58 w A L.length L) (hc : L.length ≤ c)
    (Al : Option Addr) (cl : Nat) (l : List ByteArray) (hl : Kd.C Kd.string w Al l.length l) (hcl : l.length ≤ cl) :
    Calls Tryz.prog 43 #[.pointer (some ⟨q, 0, none⟩), .slice Al l.length cl] w fun e w' => e = .returned (.tuple #[.int .i64 (walkL L l 0).1, .int .i64 (walkL L l 0).2]) ∧ ∃ n, w' = w.drewN n := by
  obtain ⟨b0, b1, b2⟩ := hq.cells
  have hmx := Kd.C_max hl
  have hmL := Kd.C_max hL
  go_enter Tryz.func43, Tryz.ntmps43
  go_wp2
  go_loopw [6, 7] (fun a i wr => ∃ (k j : Nat), j ≤ l.length ∧ i = .int .i64 j ∧ a = .int .i64 k ∧ Live L k ∧ walkL L l 0 = walkL L (l.drop j) k ∧ ∃ n, wr = w.drewN n) (fun _ i _ => l.length - (intOf i).toNat)
  case atStart => exact ⟨0, 0, Nat.zero_le _, rfl, rfl, hG.root.1, rfl, 0, rfl⟩
  case round =>
    obtain ⟨k, j, hj, rfl, rfl, hk, hw, n, hn⟩ := hrel
    have y0 : wr.cell? ⟨q, 0, none⟩ = some (.slice A L.length c) := by rw [hn]; exact b0
    have hkl := live_lt hk
    by_cases hlt : j < l.length
    · have hdr : l.drop j = l[j] :: l.drop (j + 1) := List.drop_eq_getElem_cons hlt
      obtain ⟨adl, rfl, hcell⟩ := Kd.at_string hl (j : Int) (by omega) (by omega)
      have hrd : rdOf ByteArray.empty l (j : Int) = l[j] := by simp [rdOf, hlt]
      rw [hrd, Int.toNat_natCast] at hcell
      obtain ⟨ad, A2, c2, A3, c3, hA, g0, g1, g2, g3, l2, k2, l3, k3⟩ := PTreeTwins.at_T58 hL (k : Int) (by omega) (by omega)
      rw [rd58, Int.toNat_natCast] at *
      subst hA
      have z1 : wr.cell? ⟨(ad.add (k * 4)).block, (ad.add (k * 4)).off + 1, none⟩ = some (.bool (at_ L k).f1) := by rw [hn]; exact g1
      have z3 : wr.cell? ⟨(ad.add (k * 4)).block, (ad.add (k * 4)).off + 3, none⟩ = some (.slice A3 (at_ L k).f3.length c3) := by rw [hn]; exact g3
      have zl : wr.cell? (adl.add j) = some (.string l[j]) := by rw [hn]; exact hcell
      have hs := hsl k
      obtain ⟨nm, hnm⟩ : ∃ nm, nm = l[j] := ⟨_, rfl⟩
      rw [← hnm] at hdr zl
      rw [hdr] at hw
      have hat := fun n => rat_calls A3 c3 (at_ L k).f3 nm (wr.drewN n) (by rw [hn]; exact Kd.C_drewN (Kd.C_drewN k3 _) _) l3 (by omega)
      cases hfl : (at_ L k).f1 with
      | false =>
        rw [hfl] at z1
        have HW := Lib.hid hw
        have HN := Lib.hid hn
        have Hfl := Lib.hid hfl
        clear hw hn hfl hdr hcell g0 g1 g2 g3 k2 k3 hrd hnm b0 b1 b2 hL hl
        go_wp2
        go_ret2
        have hres : walkL L l 0 = (0, 11) := by rw [HW.out]; unfold walkL; rw [if_neg (by rw [Hfl.out]; decide)]
        rw [hres]
        exact ⟨rfl, by rw [HN.out]; exact ⟨_, rfl⟩⟩
      | true =>
        rw [hfl] at z1
        have hwh := whose_at (at_ L k).f3 nm
        cases ha : atS (at_ L k).f3 nm with
        | none =>
          have hai : atI (at_ L k).f3 nm = -1 := by unfold atI; rw [ha]
          rw [ha] at hwh
          simp only [hai] at hat
          have HW := Lib.hid hw
          have HN := Lib.hid hn
          have Hfl := Lib.hid hfl
          have Hwh := Lib.hid hwh
          clear hw hn hfl hdr hcell g0 g1 g2 g3 k2 k3 hrd hnm b0 b1 b2 hL hl ha hai hwh
          go_wp2
          go_quiet ((go_at_call 44; exact Calls.quiet_of (hat _)))
          go_wp2
          go_ret2
          have hres : walkL L l 0 = (0, 8) := by rw [HW.out]; unfold walkL; rw [if_pos Hfl.out, Hwh.out]; rfl
          rw [hres]
          exact ⟨rfl, by rw [HN.out]; exact ((Drawn0.mk ⟨n, rfl⟩).step _).out⟩
        | some jj =>
          have hai : atI (at_ L k).f3 nm = (jj : Int) := by unfold atI; rw [ha]
          obtain ⟨hjj, hjn, hne⟩ := atS_some ha
          rw [ha] at hwh
          simp only [hai] at hat
          obtain ⟨ad3, hA3, e0, e1⟩ := PTreeTwins.at_T106 k3 (jj : Int) (by omega) (by omega)
          rw [rd106 _ jj hjj, Int.toNat_natCast] at e1
          subst hA3
          have hgd : (at_ L k).f3.getD jj z106 = ((at_ L k).f3)[jj] := by rw [List.getD_eq_getElem?_getD, List.getElem?_eq_getElem hjj]; rfl
          simp only [Option.map_some, hgd] at hwh
          have hmem : ((at_ L k).f3)[jj] ∈ named (at_ L k).f3 := named_mem.2 ⟨List.getElem_mem hjj, by rw [hjn]; exact hne⟩
          obtain ⟨p1, p2, p3⟩ := hG.kid k hk _ hmem
          have hx : (((at_ L k).f3)[jj]).f1 = (eix (((at_ L k).f3)[jj]) : Int) + 1 := by unfold eix; omega
          rw [hx] at e1
          obtain ⟨kk, hkk⟩ : ∃ kk, kk = eix (((at_ L k).f3)[jj]) := ⟨_, rfl⟩
          rw [← hkk] at e1 hwh p2
          have hkkl := live_lt p2
          have z5 : wr.cell? ⟨(ad3.add (jj * 2)).block, (ad3.add (jj * 2)).off + 1, none⟩ = some (.int .i64 ((kk : Int) + 1)) := by rw [hn]; exact e1
          have HW := Lib.hid hw
          have HN := Lib.hid hn
          have Hfl := Lib.hid hfl
          have Hwh := Lib.hid hwh
          have Hp2 := Lib.hid p2
          clear hw hn hfl hdr hcell g0 g1 g2 g3 k2 k3 hrd hnm b0 b1 b2 hL hl ha hai hwh e0 e1 hgd hmem p1 p2 p3 hx hjn hne hkk
          go_wp2
          go_quiet ((go_at_call 44; exact Calls.quiet_of (hat _)))
          go_wp2
          go_roundw
          case rel =>
            refine ⟨kk, j + 1, by omega, by go_num, by go_num, Hp2.out, ?_, by rw [HN.out]; exact ((Drawn0.mk ⟨n, rfl⟩).step _).out⟩
            rw [HW.out]
            conv => lhs; unfold walkL
            rw [if_pos Hfl.out, Hwh.out]
          case measure => simp [intOf]; omega
    · have hjl : j = l.length := by omega
      subst hjl
      rw [List.drop_length] at hw
      have HW := Lib.hid hw
      have HN := Lib.hid hn
      clear hw hn hL hl b0 b1 b2
      go_wp2
      go_ret2
      rw [HW.out]
      exact ⟨rfl, by rw [HN.out]; exact ⟨_, rfl⟩⟩
end Go.Proofs.YtmjhflmkgmfjkaaGreatDoor
namespace Go.Proofs.YtmjhflmkgmfjkaaGreatDoor
open Go.RowKit Go.Proofs.YtmjhflmkgmfjkaaGreatDoorW.PrintWords Go.Proofs.YtmjhflmkgmfjkaaGreatDoorW.PrintMore
open PTreeTwins (S58 S106 S35 z58 z106 k58 k106)
/-- the document's Tree: its own block q, its things' row at block b -/
structure RefAt (w : World) (q b : Nat) (r : RS) : Prop where
  row : ∃ cap, RBox w q (some ⟨b, 0, none⟩) r.L.length cap r.bl r.ino ∧ k58.R 58 w 0 (fun _ => True) (.slice (some ⟨b, 0, none⟩) r.L.length cap) r.L
theorem RBox.below {w w' : World} {q : Nat} {A : Option Addr} {n c : Nat} {bl ino : Int} (h : RBox w q A n c bl ino) (hb : Below w.heap.size w w') : RBox w' q A n c bl ino := (hb.block q (Array.getElem?_eq_some_iff.1 h).1).trans h
theorem RefAt.below {w w' : World} {q b : Nat} {r : RS} (h : RefAt w q b r) (hb : Below w.heap.size w w') : RefAt w' q b r := by
  obtain ⟨cap, h1, h2⟩ := h.row
  exact ⟨cap, h1.below hb, Kd.R_below h2 hb⟩
/-- a thing's cells -/
theorem ref_elem {w : World} {b n cap : Nat} {L : List S58} (h : k58.R 58 w 0 (fun _ => True) (.slice (some ⟨b, 0, none⟩) n cap) L) (i : Nat) (hi : i < n) :
    ∃ v2 v3, w.cell? ⟨b, i * 4, none⟩ = some (.bool (at_ L i).f0) ∧ w.cell? ⟨b, i * 4 + 1, none⟩ = some (.bool (at_ L i).f1) ∧ w.cell? ⟨b, i * 4 + 2, none⟩ = some v2 ∧ w.cell? ⟨b, i * 4 + 3, none⟩ = some v3 ∧
      kB.R 5 w 0 (fun k => True ∧ k ≠ b) v2 (at_ L i).f2 ∧ k106.R 106 w 0 (fun k => True ∧ k ≠ b) v3 (at_ L i).f3 ∧ ∀ j, w.frozen? ⟨b, i * 4 + j, none⟩ = false := by
  obtain ⟨c, h1, h2, h3, h4⟩ := Kd.R_elem h z58 (i : Int) (by omega) (by omega)
  rw [Int.toNat_natCast] at h2 h3 h4
  obtain ⟨v2, v3, rfl, g2, g3⟩ := PTreeTwins.k58_openM h2
  exact ⟨v2, v3, h3 0 _ rfl, h3 1 _ rfl, h3 2 _ rfl, h3 3 _ rfl, g2, g3, h4⟩
/-- t.L[i].S = s -/
theorem ref_setS {w : World} {b n cap : Nat} {L : List S58} (h : k58.R 58 w 0 (fun _ => True) (.slice (some ⟨b, 0, none⟩) n cap) L) (i : Nat) (hi : i < n) (v : Value) (s : List S106) (hv : k106.R 106 w 0 (fun k => True ∧ k ≠ b) v s) :
    k58.R 58 (w.setCell ⟨b, i * 4 + 3, none⟩ v) 0 (fun _ => True) (.slice (some ⟨b, 0, none⟩) n cap) (setF3 L i s) := by
  obtain ⟨c, h1, h2, h3, h4⟩ := Kd.R_elem h z58 (i : Int) (by omega) (by omega)
  rw [Int.toNat_natCast] at h2 h3
  obtain ⟨v2, v3, rfl, g2, g3⟩ := PTreeTwins.k58_openM h2
  have hM : k58.M w 0 (fun k => True ∧ k ≠ b) ({ at_ L i with f3 := s } : S58) ([.bool (at_ L i).f0, .bool (at_ L i).f1, v2, v3].take 3 ++ [v] ++ [.bool (at_ L i).f0, .bool (at_ L i).f1, v2, v3].drop (3 + [v].length)) := PTreeTwins.k58_mkM w 0 _ { at_ L i with f3 := s } g2 hv
  have := (Kd.R_seg h (i : Int) (by omega) (by omega) (c := [.bool (at_ L i).f0, .bool (at_ L i).f1, v2, v3]) (seg := [v]) (j := 3) h1 (by rw [Int.toNat_natCast]; exact h3) (show 3 + 1 ≤ k58.sz by decide) hM (fun k hk => hk)).1
  rw [Int.toNat_natCast] at this
  exact this
/-- t.L[i].B = d -/
theorem ref_setB {w : World} {b n cap : Nat} {L : List S58} (h : k58.R 58 w 0 (fun _ => True) (.slice (some ⟨b, 0, none⟩) n cap) L) (i : Nat) (hi : i < n) (v : Value) (d : List Int) (hv : kB.R 5 w 0 (fun k => True ∧ k ≠ b) v d) :
    k58.R 58 (w.setCell ⟨b, i * 4 + 2, none⟩ v) 0 (fun _ => True) (.slice (some ⟨b, 0, none⟩) n cap) (setF2 L i d) := by
  obtain ⟨c, h1, h2, h3, h4⟩ := Kd.R_elem h z58 (i : Int) (by omega) (by omega)
  rw [Int.toNat_natCast] at h2 h3
  obtain ⟨v2, v3, rfl, g2, g3⟩ := PTreeTwins.k58_openM h2
  have hM : k58.M w 0 (fun k => True ∧ k ≠ b) ({ at_ L i with f2 := d } : S58) ([.bool (at_ L i).f0, .bool (at_ L i).f1, v2, v3].take 2 ++ [v] ++ [.bool (at_ L i).f0, .bool (at_ L i).f1, v2, v3].drop (2 + [v].length)) := PTreeTwins.k58_mkM w 0 _ { at_ L i with f2 := d } hv g3
  have := (Kd.R_seg h (i : Int) (by omega) (by omega) (c := [.bool (at_ L i).f0, .bool (at_ L i).f1, v2, v3]) (seg := [v]) (j := 2) h1 (by rw [Int.toNat_natCast]; exact h3) (show 2 + 1 ≤ k58.sz by decide) hM (fun k hk => hk)).1
  rw [Int.toNat_natCast] at this
  exact this
end Go.Proofs.YtmjhflmkgmfjkaaGreatDoor
namespace Go.Proofs.YtmjhflmkgmfjkaaGreatDoor
open Go.RowKit Go.Proofs.YtmjhflmkgmfjkaaGreatDoorW.PrintWords Go.Proofs.YtmjhflmkgmfjkaaGreatDoorW.PrintMore
open PTreeTwins (S58 S106 S35 z58 z106 k58 k106)
def lessB (a b : ByteArray) : Bool := Op.bytesLess a.toList b.toList
def insN (n : ByteArray) : List ByteArray → List ByteArray
  | [] => [n]
  | x :: l => if lessB x n = true then x :: insN n l else n :: x :: l
def namesOf (s : List S106) : List ByteArray := (named s).foldl (fun acc e => insN e.f0 acc) []
theorem insN_length (n : ByteArray) : ∀ l, (insN n l).length = l.length + 1
  | [] => rfl
  | x :: l => by
    unfold insN
    split
    · simp [insN_length n l]
    · rfl
theorem insN_perm (n : ByteArray) : ∀ l, (insN n l).Perm (n :: l)
  | [] => List.Perm.refl _
  | x :: l => by
    unfold insN
    split
    · exact (List.Perm.cons x (insN_perm n l)).trans (List.Perm.swap n x l)
    · exact List.Perm.refl _
theorem insN_from (n : ByteArray) (acc : List ByteArray) (j : Nat) (hj : j ≤ acc.length) (h : ∀ x ∈ acc.take j, lessB x n = true) : insN n acc = acc.take j ++ insN n (acc.drop j) := by
  induction j generalizing acc with
  | zero => rfl
  | succ j ih =>
    cases acc with
    | nil => simp at hj
    | cons x l =>
      simp only [List.take_succ_cons, List.drop_succ_cons, List.cons_append]
      have hx := h x (by simp)
      conv => lhs; unfold insN
      rw [if_pos hx, ih l (by simpa using hj) (fun y hy => h y (by simp [hy]))]
theorem names_l1 (s : List S106) (acc : List ByteArray) (i : Nat) (hi : i < s.length) (ha : acc.length ≤ 100000) (hs : s.length ≤ 100000) (r : List ByteArray) (d : Nat) : ∀ (k j : Nat), j + d = acc.length → (∀ x ∈ acc.take j, lessB x (s[i]).f0 = true) →
    (∀ k', k ≤ k' + d + 1 → PTreeTwins.mailbagref9_Names.l0 k' s (insN (s[i]).f0 acc) (((i + 1 : Nat)) : Int) = some r) → d < k → PTreeTwins.mailbagref9_Names.l1 k s acc (i : Int) (j : Int) = some r := by
  induction d with
  | zero =>
    intro k j hj hless hk hd
    obtain ⟨k, rfl⟩ : ∃ x, k = x + 1 := ⟨k - 1, by omega⟩
    have hins := insN_from (s[i]).f0 acc j (by omega) hless
    have hrec := hk k (by omega)
    unfold PTreeTwins.mailbagref9_Names.l1
    rw [if_neg (show ¬ (j : Int) < (acc.length : Int) by omega)]
    simp only [Option.bind_some, List.nil_append, Int.toNat_natCast, rd106 s i hi]
    rw [if_pos (show (0 : Int) ≤ (j : Int) by omega), if_pos (show (j : Int) ≤ (acc.length : Int) by omega)]
    rw [if_pos (by simp; omega), if_pos (show (0 : Int) ≤ (i : Int) by omega), if_pos (show (i : Int) < (s.length : Int) by omega), if_pos (by simp; omega), if_pos (by simp; omega)]
    rw [wrap_in _ (by omega) (by omega), show ((i : Int) + 1) = ((i + 1 : Nat) : Int) from by omega]
    rw [hins, List.drop_eq_nil_of_le (show acc.length ≤ j by omega)] at hrec
    rw [List.drop_eq_nil_of_le (show acc.length ≤ j by omega)]
    simpa [insN] using hrec
  | succ d ih =>
    intro k j hj hless hk hd
    obtain ⟨k, rfl⟩ : ∃ x, k = x + 1 := ⟨k - 1, by omega⟩
    have hjl : j < acc.length := by omega
    have hrd : rdOf ByteArray.empty acc (j : Int) = acc[j] := by simp [rdOf, hjl]
    unfold PTreeTwins.mailbagref9_Names.l1
    rw [if_pos (show (j : Int) < (acc.length : Int) by omega), if_pos (show (0 : Int) ≤ (j : Int) by omega), if_pos (show (0 : Int) ≤ (i : Int) by omega), if_pos (show (i : Int) < (s.length : Int) by omega), rd106 s i hi, hrd]
    by_cases hl : lessB acc[j] (s[i]).f0 = true
    · have hl' : Op.bytesLess acc[j].toList (s[i]).f0.toList = true := hl
      rw [if_pos hl', wrap_in _ (by omega) (by omega), show ((j : Int) + 1) = ((j + 1 : Nat) : Int) from by omega]
      refine ih k (j + 1) (by omega) (fun x hx => ?_) (fun k' hk' => hk k' (by omega)) (by omega)
      rw [List.take_succ_eq_append_getElem hjl] at hx
      rcases List.mem_append.1 hx with h | h
      · exact hless x h
      · rw [List.mem_singleton.1 h]; exact hl
    · have hl' : ¬ Op.bytesLess acc[j].toList (s[i]).f0.toList = true := hl
      have hins := insN_from (s[i]).f0 acc j (by omega) hless
      have hrec := hk k (by omega)
      rw [if_neg hl']
      simp only [Option.bind_some, List.nil_append, Int.toNat_natCast]
      rw [if_pos (show (j : Int) ≤ (acc.length : Int) by omega), if_pos (by simp; omega), if_pos (by simp; omega), if_pos (by simp; omega)]
      rw [wrap_in _ (by omega) (by omega), show ((i : Int) + 1) = ((i + 1 : Nat) : Int) from by omega]
      rw [hins, List.drop_eq_getElem_cons hjl] at hrec
      unfold insN at hrec
      rw [if_neg hl] at hrec
      rw [List.drop_eq_getElem_cons hjl]
      simpa using hrec
theorem names_l0 (s : List S106) (hs : s.length ≤ 100000) (d : Nat) : ∀ (k i : Nat) (acc : List ByteArray), i + d = s.length → acc.length ≤ i → d * (s.length + 3) + 1 ≤ k →
    PTreeTwins.mailbagref9_Names.l0 k s acc (i : Int) = some ((named (s.drop i)).foldl (fun acc e => insN e.f0 acc) acc) := by
  induction d with
  | zero =>
    intro k i acc hi ha hk
    obtain ⟨k, rfl⟩ : ∃ x, k = x + 1 := ⟨k - 1, by omega⟩
    unfold PTreeTwins.mailbagref9_Names.l0
    rw [if_neg (show ¬ (i : Int) < (s.length : Int) by omega), List.drop_eq_nil_of_le (by omega)]
    rfl
  | succ d ih =>
    intro k i acc hi ha hk
    obtain ⟨k, rfl⟩ : ∃ x, k = x + 1 := ⟨k - 1, by omega⟩
    have h0 : i < s.length := by omega
    have hm : (d + 1) * (s.length + 3) = d * (s.length + 3) + (s.length + 3) := Nat.succ_mul _ _
    unfold PTreeTwins.mailbagref9_Names.l0
    rw [if_pos (show (i : Int) < (s.length : Int) by omega), if_pos (show (0 : Int) ≤ (i : Int) by omega), rd106 s i h0, List.drop_eq_getElem_cons h0]
    by_cases he : (s[i]).f0 = ByteArray.empty
    · rw [if_pos ((empty_list _).2 he), named_cons_free _ _ he, wrap_in _ (by omega) (by omega), show ((i : Int) + 1) = ((i + 1 : Nat) : Int) from by omega]
      exact ih k (i + 1) acc (by omega) (by omega) (by omega)
    · rw [if_neg (fun e => he ((empty_list _).1 e)), named_cons_named _ _ he, List.foldl_cons]
      have := names_l1 s acc i h0 (by omega) hs ((named (s.drop (i + 1))).foldl (fun acc e => insN e.f0 acc) (insN (s[i]).f0 acc)) acc.length k 0 (by omega) (by simp)
        (fun k' hk' => ih k' (i + 1) (insN (s[i]).f0 acc) (by omega) (by rw [insN_length]; omega) (by omega)) (by omega)
      exact this
theorem names_f (s : List S106) (hs : s.length ≤ 100000) (k : Nat) (hk : s.length * (s.length + 3) + 1 ≤ k) : PTreeTwins.mailbagref9_Names.f k s = some (namesOf s) := by
  unfold PTreeTwins.mailbagref9_Names.f namesOf
  have := names_l0 s hs s.length k 0 [] (by omega) (by simp) hk
  rw [List.drop_zero] at this
  exact this
theorem namesOf_perm (s : List S106) : (namesOf s).Perm ((named s).map (·.f0)) := by
  unfold namesOf
  have h : ∀ (l : List S106) (acc : List ByteArray), (l.foldl (fun acc e => insN e.f0 acc) acc).Perm (acc ++ l.map (·.f0)) := by
    intro l
    induction l with
    | nil => intro acc; simp
    | cons e l ih =>
      intro acc
      rw [List.foldl_cons, List.map_cons]
      refine (ih _).trans ?_
      refine ((insN_perm e.f0 acc).append_right _).trans ?_
      exact List.perm_middle.symm
  simpa using h (named s) []
theorem namesOf_length (s : List S106) : (namesOf s).length = (named s).length := by
  have := (namesOf_perm s).length_eq
  simpa using this
end Go.Proofs.YtmjhflmkgmfjkaaGreatDoor
namespace Go.Proofs.YtmjhflmkgmfjkaaGreatDoor
open Go.RowKit Go.Proofs.YtmjhflmkgmfjkaaGreatDoorW.PrintWords Go.Proofs.YtmjhflmkgmfjkaaGreatDoorW.PrintMore
open PTreeTwins (S58 S106 S35 z58 z106 k58 k106)
theorem RBox.lt {w : World} {q : Nat} {A : Option Addr} {n c : Nat} {bl ino : Int} (h : RBox w q A n c bl ino) : q < w.heap.size := (Array.getElem?_eq_some_iff.1 h).1
theorem RBox.keeps {w w' : World} {S : Nat → Prop} {q : Nat} {A : Option Addr} {n c : Nat} {bl ino : Int} (h : RBox w q A n c bl ino) (hk : Keeps S w w') (hn : ¬ S q) : RBox w' q A n c bl ino := hk.blk h hn
theorem RBox.set0 {w : World} {q : Nat} {A : Option Addr} {n c : Nat} {bl ino : Int} (h : RBox w q A n c bl ino) (A' : Option Addr) (n' c' : Nat) : RBox (w.setCell ⟨q, 0, none⟩ (.slice A' n' c')) q A' n' c' bl ino := by
  unfold RBox at *
  simp [World.setCell, Array.getElem?_modify, h]
theorem RBox.set1 {w : World} {q : Nat} {A : Option Addr} {n c : Nat} {bl ino : Int} (h : RBox w q A n c bl ino) (x : Int) : RBox (w.setCell ⟨q, 1, none⟩ (.int .i64 x)) q A n c x ino := by
  unfold RBox at *
  simp [World.setCell, Array.getElem?_modify, h]
theorem RBox.set2 {w : World} {q : Nat} {A : Option Addr} {n c : Nat} {bl ino : Int} (h : RBox w q A n c bl ino) (x : Int) : RBox (w.setCell ⟨q, 2, none⟩ (.int .i64 x)) q A n c bl x := by
  unfold RBox at *
  simp [World.setCell, Array.getElem?_modify, h]
theorem k58_E : ∀ q, q ∈ 58 :: k58.E → q = 58 ∨ q = 5 ∨ q = 106 := by decide
theorem RefAt.ne {w : World} {q b : Nat} {r : RS} (h : RefAt w q b r) (hL : r.L ≠ []) : q ≠ b := by
  obtain ⟨cap, h1, h2⟩ := h.row
  have := Kd.R_bound h2
  obtain ⟨h0, _⟩ := this
  obtain ⟨_, _, _, t, ht, cells, hc⟩ := h0 b rfl
  intro e
  subst e
  unfold RBox at h1
  rw [h1] at hc
  cases hc
  rcases k58_E _ ht with e | e | e <;> exact absurd e (by decide)
/-- t.Blocks = x, t.Inodes = x -/
theorem RefAt.setBl {w : World} {q b : Nat} {r : RS} (h : RefAt w q b r) (x : Int) : RefAt (w.setCell ⟨q, 1, none⟩ (.int .i64 x)) q b { r with bl := x } := by
  obtain ⟨cap, h1, h2⟩ := h.row
  exact ⟨cap, h1.set1 x, Kd.R_set h2 h1 (fun t ht => by rcases k58_E t ht with e | e | e <;> rw [e] <;> decide) 1 _⟩
theorem RefAt.setIno {w : World} {q b : Nat} {r : RS} (h : RefAt w q b r) (x : Int) : RefAt (w.setCell ⟨q, 2, none⟩ (.int .i64 x)) q b { r with ino := x } := by
  obtain ⟨cap, h1, h2⟩ := h.row
  exact ⟨cap, h1.set2 x, Kd.R_set h2 h1 (fun t ht => by rcases k58_E t ht with e | e | e <;> rw [e] <;> decide) 2 _⟩
theorem RefAt.setS {w : World} {q b : Nat} {r : RS} (h : RefAt w q b r) (i : Nat) (hi : i < r.L.length) (v : Value) (s : List S106) (hv : k106.R 106 w 0 (fun k => True ∧ k ≠ b) v s) : RefAt (w.setCell ⟨b, i * 4 + 3, none⟩ v) q b { r with L := setF3 r.L i s } := by
  obtain ⟨cap, h1, h2⟩ := h.row
  refine ⟨cap, ?_, ?_⟩
  · rw [setF3_length]
    exact (Below.heap_setCell w _ v q (fun e => h.ne (fun e0 => by rw [e0] at hi; simp at hi) e)).trans h1
  · rw [setF3_length]
    exact ref_setS h2 i hi v s hv
theorem RefAt.setB {w : World} {q b : Nat} {r : RS} (h : RefAt w q b r) (i : Nat) (hi : i < r.L.length) (v : Value) (d : List Int) (hv : kB.R 5 w 0 (fun k => True ∧ k ≠ b) v d) : RefAt (w.setCell ⟨b, i * 4 + 2, none⟩ v) q b { r with L := setF2 r.L i d } := by
  obtain ⟨cap, h1, h2⟩ := h.row
  refine ⟨cap, ?_, ?_⟩
  · rw [setF2_length]
    exact (Below.heap_setCell w _ v q (fun e => h.ne (fun e0 => by rw [e0] at hi; simp at hi) e)).trans h1
  · rw [setF2_length]
    exact ref_setB h2 i hi v d hv
/-- what is no row of things: a row of slots, a row of bytes, lies in another block -/
theorem RefAt.row_lt {w : World} {q b : Nat} {r : RS} (h : RefAt w q b r) : b < w.heap.size := by
  obtain ⟨cap, h1, h2⟩ := h.row
  exact Kd.R_lt h2 b rfl
/-- what a call on the document's tree has done -/
def DidR (w : World) (q b : Nat) (r' : RS) (w2 : World) : Prop := ∃ b', RefAt w2 q b' r' ∧ Keeps (fun k => k = q ∨ k = b) w w2 ∧ (b' = b ∨ w.heap.size ≤ b')
theorem DidR.none {w w2 : World} {q b : Nat} {r : RS} (h : RefAt w q b r) (hb : Below w.heap.size w w2) : DidR w q b r w2 := ⟨b, h.below hb, Keeps.of_below hb, .inl rfl⟩
theorem DidR.trans {w w1 w2 : World} {q b b1 : Nat} {r' : RS} (hk : Keeps (fun k => k = q ∨ k = b) w w1) (hb1 : b1 = b ∨ w.heap.size ≤ b1) (h : DidR w1 q b1 r' w2) : DidR w q b r' w2 := by
  obtain ⟨b', h1, h2, h3⟩ := h
  refine ⟨b', h1, hk.then_ h2 (fun i hi => ?_), ?_⟩
  · rcases hi with rfl | rfl
    · exact .inl (.inl rfl)
    · rcases hb1 with e | e
      · exact .inl (.inr e)
      · exact .inr e
  · rcases h3 with e | e
    · rw [e]; exact hb1
    · exact .inr (Nat.le_trans hk.size e)
end Go.Proofs.YtmjhflmkgmfjkaaGreatDoor
