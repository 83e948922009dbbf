/- A part of the proof: T, U, U2, U3, U4. -/
import Derived.Test.YtmjhflmkgmfjkaaGreatDoorPc
import Derived.Test.YtmjhflmkgmfjkaaGreatDoorAa
import Derived.Ground.NamesProg
import Derived.Shelf.Lay
import Derived.Shelf.Strings.Split
import Derived.Shelf.Strings.Prefix
import Derived.Test.YtmjhflmkgmfjkaaGreatDoorAe
import Derived.LoopTactic
import Derived.WalkMore
set_option linter.unusedVariables false
set_option linter.unusedSimpArgs false
namespace Go.Proofs
open Go.RowKit Go.Shelf Go.Lib
def Tryz.laysSplit_ren : Go.Shelf.Ren := ⟨fun | 146 => 64 | 221 => 93 | 268 => 112 | 138 => 113 | 143 => 114 | 195 => 122 | 197 => 123 | 218 => 124 | 219 => 125 | 260 => 127 | 217 => 128 | 225 => 129 | 224 => 130 | 267 => 131 | 266 => 132 | 314 => 133 | n => n, fun | 9 => 9 | 31 => 47 | 3 => 3 | 4 => 4 | 0 => 0 | 105 => 170 | 21 => 21 | 5 => 5 | 46 => 142 | 119 => 175 | 139 => 178 | 138 => 177 | 146 => 179 | 51 => 157 | n => n, fun | 1 => 0 | 3 => 1 | 4 => 2 | n => n⟩
theorem Tryz.laysSplit : Go.Proofs.Lays.n146 Tryz.prog Tryz.laysSplit_ren := {
  mixed := by kernel_rfl
  f138 := Tryz.func113.trans (congrArg some (by kernel_rfl))
  f143 := Tryz.func114.trans (congrArg some (by kernel_rfl))
  f146 := Tryz.func64.trans (congrArg some (by kernel_rfl))
  f195 := Tryz.func122.trans (congrArg some (by kernel_rfl))
  f197 := Tryz.func123.trans (congrArg some (by kernel_rfl))
  f217 := Tryz.func128.trans (congrArg some (by kernel_rfl))
  f218 := Tryz.func124.trans (congrArg some (by kernel_rfl))
  f219 := Tryz.func125.trans (congrArg some (by kernel_rfl))
  f221 := Tryz.func93.trans (congrArg some (by kernel_rfl))
  f224 := Tryz.func130.trans (congrArg some (by kernel_rfl))
  f225 := Tryz.func129.trans (congrArg some (by kernel_rfl))
  f260 := Tryz.func127.trans (congrArg some (by kernel_rfl))
  f266 := Tryz.func132.trans (congrArg some (by kernel_rfl))
  f267 := Tryz.func131.trans (congrArg some (by kernel_rfl))
  f268 := Tryz.func112.trans (congrArg some (by kernel_rfl))
  f314 := Tryz.func133.trans (congrArg some (by kernel_rfl))
  t0 := Tryz.underlying0
  a0 := Tryz.isAgg0
  z0 := Tryz.sizeOf0
  v0 := Tryz.zeroValue0
  t3 := Tryz.underlying3
  a3 := Tryz.isAgg3
  z3 := Tryz.sizeOf3
  v3 := Tryz.zeroValue3
  t4 := Tryz.underlying4
  a4 := Tryz.isAgg4
  z4 := Tryz.sizeOf4
  v4 := Tryz.zeroValue4
  t5 := Tryz.underlying5
  a5 := Tryz.isAgg5
  z5 := Tryz.sizeOf5
  v5 := Tryz.zeroValue5
  t9 := Tryz.underlying9
  a9 := Tryz.isAgg9
  z9 := Tryz.sizeOf9
  v9 := Tryz.zeroValue9
  t21 := Tryz.underlying21
  a21 := Tryz.isAgg21
  z21 := Tryz.sizeOf21
  v21 := Tryz.zeroValue21
  t31 := Tryz.underlying47
  a31 := Tryz.isAgg47
  z31 := Tryz.sizeOf47
  v31 := Tryz.zeroValue47
  t46 := Tryz.underlying142
  a46 := Tryz.isAgg142
  z46 := Tryz.sizeOf142
  v46 := Tryz.zeroValue142
  t51 := Tryz.underlying157
  a51 := Tryz.isAgg157
  z51 := Tryz.sizeOf157
  v51 := Tryz.zeroValue157
  t105 := Tryz.underlying170
  a105 := Tryz.isAgg170
  z105 := Tryz.sizeOf170
  v105 := Tryz.zeroValue170
  t119 := Tryz.underlying175
  a119 := Tryz.isAgg175
  z119 := Tryz.sizeOf175
  t138 := Tryz.underlying177
  a138 := Tryz.isAgg177
  z138 := Tryz.sizeOf177
  v138 := Tryz.zeroValue177
  t139 := Tryz.underlying178
  a139 := Tryz.isAgg178
  z139 := Tryz.sizeOf178
  v139 := Tryz.zeroValue178
  t146 := Tryz.underlying179
  a146 := Tryz.isAgg179
  z146 := Tryz.sizeOf179
  v146 := Tryz.zeroValue179
  g1 := by kernel_rfl
  g3 := by kernel_rfl
  g4 := by kernel_rfl }
section
variable {P : Program} {ρ : Ren}
theorem YtmjhflmkgmfjkaaGreatDoor.strings_Split_byte (L : Lays.n146 P ρ) (hi9 : (P.info? (ρ.t 9)).map (fun i => (i.zero, i.size, i.bytes)) = some (some (.string ByteArray.empty), 1, 16)) (s : ByteArray) (b : UInt8) (w : World) (hs : s.size < 4294967281) :
    Calls P (ρ.f 146) #[.string s, .string ⟨#[b]⟩] w fun e w' =>
      e = .returned (.slice (some ⟨w.heap.size, 0, none⟩) (Lib.countB s ⟨#[b]⟩ + 1) (Lib.countB s ⟨#[b]⟩ + 1)) ∧ w' = w.alloc (.cells ((Lib.splitB ⟨#[b]⟩ 0 (Lib.countB s ⟨#[b]⟩) s).map Value.string).toArray (ρ.t 9)) := by
  have h1 : 1 ≤ (⟨#[b]⟩ : ByteArray).size := Nat.le_refl _
  have hle := Lib.countB_le ⟨#[b]⟩ h1 s.size s (Nat.le_refl _)
  have hlen := Lib.splitB_all ⟨#[b]⟩ h1 0 _ s rfl
  have hcnt : ∀ w : World, Calls P (ρ.f 138) #[.string s, .string ⟨#[b]⟩] w fun e w' => e = .returned (.int .i64 (Lib.countB s ⟨#[b]⟩)) ∧ w' = w := fun w => by
    refine (Any.strings_Count_one { L with } s b w).mono fun e w' ⟨he, hw⟩ => ⟨?_, hw⟩
    rw [he]
    show _ = Ending.returned (Value.int .i64 ((Lib.count s.data.toList [b] : Nat) : Int))
    rw [Lib.count_one]
    rfl
  have c := Any.strings_genSplit_core { L with } hi9 s ⟨#[b]⟩ 0 (-1) (Lib.countB s ⟨#[b]⟩ + 1) w hs h1 (Nat.zero_le _)
    (fun x c hx => (Any.strings_Index_one { L with } x b _).mono fun e w' ⟨he, hw⟩ => ⟨by rw [he]; show _ = Ending.returned (Value.int .i64 (Lib.index x.data.toList [b])); rw [Lib.index_one], hw⟩)
    (hcnt w) (by decide) (by decide) (by rw [if_pos (by decide)]; omega)
  rw [Nat.add_sub_cancel, hlen] at c
  have e2 : Lib.cellsOf (Lib.splitB ⟨#[b]⟩ 0 (Lib.countB s ⟨#[b]⟩) s) (Lib.countB s ⟨#[b]⟩ + 1) = ((Lib.splitB ⟨#[b]⟩ 0 (Lib.countB s ⟨#[b]⟩) s).map Value.string).toArray := by rw [← hlen]; exact Lib.cellsOf_full _
  rw [e2] at c
  have t3 := L.t3; have t9 := L.t9; have t31 := L.t31
  have a3 := L.a3; have a9 := L.a9; have a31 := L.a31
  have z3 := L.z3; have v3 := L.v3; have z9 := L.z9; have v9 := L.v9; have z31 := L.z31; have v31 := L.v31
  have e221 : ∀ args w, (callFunc (ρ.f 221) args).run P w = .ok (.enter (ρ.f 221) args) w := enters_of L.f221 (by kernel_rfl) rfl
  go_enter L.f146, Body.n146_ntmps ρ
  go_wp2_with (go_at_fn (ρ.f 221); refine c.mono ?_; rintro e w' ⟨rfl, hw⟩; rw [hw])
  go_ret
  exact ⟨rfl, rfl⟩
end
end Go.Proofs
namespace Go.Proofs.YtmjhflmkgmfjkaaGreatDoor
open Go.RowKit Go.Proofs.YtmjhflmkgmfjkaaGreatDoorW.PrintWords Go.Proofs.YtmjhflmkgmfjkaaGreatDoorW.PrintMore
theorem split_lib (s : ByteArray) (b : UInt8) (w : World) (hs : s.size < 4294967281) :
    Calls Tryz.prog 64 #[.string s, .string ⟨#[b]⟩] w fun e w' =>
      e = .returned (.slice (some ⟨w.heap.size, 0, none⟩) (Lib.countB s ⟨#[b]⟩ + 1) (Lib.countB s ⟨#[b]⟩ + 1)) ∧ w' = w.alloc (.cells ((Lib.splitB ⟨#[b]⟩ 0 (Lib.countB s ⟨#[b]⟩) s).map Value.string).toArray 9) :=
  strings_Split_byte Tryz.laysSplit (by kernel_rfl) s b w hs
end Go.Proofs.YtmjhflmkgmfjkaaGreatDoor
namespace Go.Proofs.YtmjhflmkgmfjkaaGreatDoor
open Go.RowKit Go.Proofs.YtmjhflmkgmfjkaaGreatDoorW.PrintWords Go.Proofs.YtmjhflmkgmfjkaaGreatDoorW.PrintMore
open PTreeTwins (S58 S106 S35 z58 z106)
def okc (c : UInt8) : Bool := decide (0x21 ≤ c.toNat) && decide (c.toNat ≤ 0x7E) && decide (c.toNat ≠ 47)
theorem size_len (p : ByteArray) : p.size = p.data.toList.length := Lib.size_eq p
theorem bt_get (p : ByteArray) (i : Nat) (h : i < p.data.toList.length) : bt p (i : Int) = ((p.data.toList[i]).toNat : Int) := by
  have h' : i < p.size := by rw [size_len]; exact h
  unfold bt
  rw [dif_pos (by simpa using h')]
  simp [ByteArray.getElem_eq_getElem_data]
theorem ba_list (p : ByteArray) (l : List UInt8) : (p.toList = l) = (p.data.toList = l) := by rw [ByteArray.toList_eq]
theorem dirName_l0 (p : ByteArray) (hb : p.size ≤ 48) : ∀ (d k i : Nat), i + d = p.size → d < k → PTreeTwins.dir_Name.l0 k p (p.size : Int) (i : Int) = some ((p.data.toList.drop i).all okc)
  | d, 0, i, _, h => by omega
  | d, k + 1, i, hi, hk => by
    unfold PTreeTwins.dir_Name.l0
    cases d with
    | zero =>
      rw [if_neg (by omega), List.drop_eq_nil_of_le (by rw [← size_len]; omega)]; rfl
    | succ d =>
      have h0 : i < p.data.toList.length := by rw [← size_len]; omega
      rw [if_pos (by omega), if_pos (by omega), if_pos (by omega), bt_get p i h0, List.drop_eq_getElem_cons h0, List.all_cons]
      have ih := dirName_l0 p hb d k (i + 1) (by omega) (by omega)
      have hn : okc p.data.toList[i] = (decide (33 ≤ p.data.toList[i].toNat) && decide (p.data.toList[i].toNat ≤ 126) && decide (p.data.toList[i].toNat ≠ 47)) := rfl
      rw [wrap_in _ (by omega) (by omega), show ((i : Int) + 1) = ((i + 1 : Nat) : Int) from by omega, ih, hn]
      generalize p.data.toList[i].toNat = c
      by_cases h1 : c < 33
      · rw [if_pos (by omega)]; simp; omega
      · rw [if_neg (by omega)]
        by_cases h2 : c > 126
        · rw [if_pos (by omega)]; simp; omega
        · rw [if_neg (by omega)]
          by_cases h3 : c = 47
          · rw [if_pos (by omega)]; simp [h3]
          · rw [if_neg (by omega)]
            have : (decide (33 ≤ c) && decide (c ≤ 126) && decide (c ≠ 47)) = true := by simp; omega
            rw [this, Bool.true_and]
theorem refName_l0 (p : ByteArray) (hb : p.size ≤ 48) : ∀ (d k i : Nat), i + d = p.size → d < k → PTreeTwins.mailbagref9_Name.l0 k p (i : Int) = some ((p.data.toList.drop i).all okc)
  | d, 0, i, _, h => by omega
  | d, k + 1, i, hi, hk => by
    unfold PTreeTwins.mailbagref9_Name.l0
    cases d with
    | zero =>
      rw [if_neg (by omega), List.drop_eq_nil_of_le (by rw [← size_len]; omega)]; rfl
    | succ d =>
      have h0 : i < p.data.toList.length := by rw [← size_len]; omega
      rw [if_pos (by omega), if_pos (by omega), bt_get p i h0, List.drop_eq_getElem_cons h0, List.all_cons]
      have ih := refName_l0 p hb d k (i + 1) (by omega) (by omega)
      have hn : okc p.data.toList[i] = (decide (33 ≤ p.data.toList[i].toNat) && decide (p.data.toList[i].toNat ≤ 126) && decide (p.data.toList[i].toNat ≠ 47)) := rfl
      rw [wrap_in _ (by omega) (by omega), show ((i : Int) + 1) = ((i + 1 : Nat) : Int) from by omega, ih, hn]
      generalize p.data.toList[i].toNat = c
      by_cases h1 : c < 33
      · rw [if_pos (by omega)]; simp; omega
      · rw [if_neg (by omega)]
        by_cases h2 : c > 126
        · rw [if_pos (by omega)]; simp; omega
        · rw [if_neg (by omega)]
          by_cases h3 : c = 47
          · rw [if_pos (by omega)]; simp [h3]
          · rw [if_neg (by omega)]
            have : (decide (33 ≤ c) && decide (c ≤ 126) && decide (c ≠ 47)) = true := by simp; omega
            rw [this, Bool.true_and]
theorem nameOk_eq (p : ByteArray) : nameOk p = (p.size != 0 && decide (p.size ≤ 48) && decide (p.data.toList ≠ [46]) && decide (p.data.toList ≠ [46, 46]) && p.data.toList.all okc) := rfl
theorem dirName_f (p : ByteArray) (k : Nat) (hk : 52 ≤ k) : PTreeTwins.dir_Name.f k p = some (nameOk p) := by
  obtain ⟨k, rfl⟩ : ∃ j, k = j + 1 := ⟨k - 1, by omega⟩
  unfold PTreeTwins.dir_Name.f
  simp only [PTreeTwins.dir_Name.j0, if_true]
  rw [nameOk_eq]
  simp only [ba_list, ByteArray.toList_eq]
  by_cases h0 : p.data.toList = []
  · rw [if_pos h0]
    have : p.size = 0 := by rw [size_len, h0]; rfl
    simp [this]
  · rw [if_neg h0]
    have hs : p.size ≠ 0 := fun e => h0 (List.eq_nil_of_length_eq_zero (by rw [← size_len]; exact e))
    by_cases h1 : (p.size : Int) > 48
    · rw [if_pos h1]
      have : ¬ p.size ≤ 48 := by omega
      simp [this]
    · rw [if_neg h1]
      have h1' : p.size ≤ 48 := by omega
      by_cases h2 : p.data.toList = [46]
      · rw [if_pos h2]; simp [h2]
      · rw [if_neg h2]
        by_cases h3 : p.data.toList = [46, 46]
        · rw [if_pos (by rw [h3]; rfl)]; simp [h3]
        · rw [if_neg (by simpa using h3)]
          have := dirName_l0 p h1' p.size k 0 (by omega) (by omega)
          simp only [List.drop_zero] at this
          rw [show ((0 : Nat) : Int) = 0 from rfl] at this
          rw [this]
          simp [hs, h1', h2, h3]
theorem refName_f (p : ByteArray) (k : Nat) (hk : 52 ≤ k) : PTreeTwins.mailbagref9_Name.f k p = some (nameOk p) := by
  obtain ⟨k, rfl⟩ : ∃ j, k = j + 1 := ⟨k - 1, by omega⟩
  unfold PTreeTwins.mailbagref9_Name.f
  simp only [PTreeTwins.mailbagref9_Name.j0, if_true]
  rw [nameOk_eq]
  simp only [ba_list, ByteArray.toList_eq]
  by_cases h0 : p.data.toList = []
  · rw [if_pos h0]
    have : p.size = 0 := by rw [size_len, h0]; rfl
    simp [this]
  · rw [if_neg h0]
    have hs : p.size ≠ 0 := fun e => h0 (List.eq_nil_of_length_eq_zero (by rw [← size_len]; exact e))
    by_cases h1 : (p.size : Int) > 48
    · rw [if_pos h1]
      have : ¬ p.size ≤ 48 := by omega
      simp [this]
    · rw [if_neg h1]
      have h1' : p.size ≤ 48 := by omega
      by_cases h2 : p.data.toList = [46]
      · rw [if_pos h2]; simp [h2]
      · rw [if_neg h2]
        by_cases h3 : p.data.toList = [46, 46]
        · rw [if_pos (by rw [h3]; rfl)]; simp [h3]
        · rw [if_neg (by simpa using h3)]
          have := refName_l0 p h1' p.size k 0 (by omega) (by omega)
          simp only [List.drop_zero] at this
          rw [show ((0 : Nat) : Int) = 0 from rfl] at this
          rw [this]
          simp [hs, h1', h2, h3]
def baOf (l : List UInt8) : ByteArray := ⟨l.toArray⟩
theorem baOf_list (l : List UInt8) : (baOf l).data.toList = l := by simp [baOf]
def finS (acc : List ByteArray) : List ByteArray × Int := if acc.length > 8 then ([], 5) else (acc, 0)
def specS : List UInt8 → List UInt8 → List ByteArray → List ByteArray × Int
  | [], cur, acc => if nameOk (baOf cur) = true then finS (acc ++ [baOf cur]) else ([], 12)
  | c :: l, cur, acc => if c = 47 then (if nameOk (baOf cur) = true then specS l [] (acc ++ [baOf cur]) else ([], 12)) else specS l (cur ++ [c]) acc
theorem specS_split : ∀ (l cur : List UInt8) (acc : List ByteArray), ∃ h t, splitOn l = h :: t ∧ specS l cur acc = if (((cur ++ h) :: t).map baOf).all nameOk = true then finS (acc ++ ((cur ++ h) :: t).map baOf) else ([], 12)
  | [], cur, acc => ⟨[], [], rfl, by unfold specS; simp⟩
  | c :: l, cur, acc => by
    by_cases hc : c = 47
    · obtain ⟨h, t, h1, h2⟩ := specS_split l [] (acc ++ [baOf cur])
      refine ⟨[], h :: t, by unfold splitOn; rw [if_pos hc, h1], ?_⟩
      unfold specS
      rw [if_pos hc, h2]
      by_cases ho : nameOk (baOf cur) = true
      · rw [if_pos ho]; simp [ho, List.append_assoc]
      · rw [if_neg ho]; simp [ho]
    · obtain ⟨h, t, h1, h2⟩ := specS_split l (cur ++ [c]) acc
      refine ⟨c :: h, t, by unfold splitOn; rw [if_neg hc, h1], ?_⟩
      unfold specS
      rw [if_neg hc, h2, List.append_assoc]
      rfl
theorem specS_root (l : List UInt8) : specS l [] [] = if ((splitOn l).map baOf).all nameOk = true then finS ((splitOn l).map baOf) else ([], 12) := by
  obtain ⟨h, t, h1, h2⟩ := specS_split l [] []
  rw [h2, h1]; rfl
theorem extract_list (p : ByteArray) (a b : Nat) : p.extract a b = baOf ((p.data.toList.drop a).take (b - a)) := by
  have h := Lib.extract_data p a b
  unfold baOf
  rw [← h]
end Go.Proofs.YtmjhflmkgmfjkaaGreatDoor
namespace Go.Proofs.YtmjhflmkgmfjkaaGreatDoor
open Go.RowKit Go.Proofs.YtmjhflmkgmfjkaaGreatDoorW.PrintWords Go.Proofs.YtmjhflmkgmfjkaaGreatDoorW.PrintMore
open PTreeTwins (S58 S106 S35 z58 z106)
theorem refSplit_l0 (p : ByteArray) (hb : p.size ≤ 256) : ∀ (d k i st : Nat) (acc : List ByteArray), i + d = p.size → st ≤ i → 2 * d + 60 ≤ k → acc.length ≤ i →
    PTreeTwins.mailbagref10_Split.l0 k p acc (st : Int) (i : Int) = some (specS (p.data.toList.drop i) ((p.data.toList.drop st).take (i - st)) acc) := by
  intro d
  induction d with
  | zero =>
    intro k i st acc hi hst hk ha
    obtain ⟨k, rfl⟩ : ∃ j, k = j + 1 + 1 + 1 := ⟨k - 3, by omega⟩
    rw [List.drop_eq_nil_of_le (by rw [← size_len]; omega)]
    unfold PTreeTwins.mailbagref10_Split.l0
    rw [if_pos (by omega), if_neg (by omega)]
    unfold PTreeTwins.mailbagref10_Split.j2
    rw [if_neg (by decide), if_pos (by omega), if_pos (by omega), if_pos (by omega), refName_f _ _ (by omega)]
    simp only [Option.bind_some, Int.toNat_natCast]
    rw [extract_list]
    unfold specS
    by_cases ho : nameOk (baOf ((p.data.toList.drop st).take (i - st))) = true
    · rw [if_pos ho, if_pos ho, if_pos (by omega), wrap_in _ (by omega) (by omega)]
      unfold PTreeTwins.mailbagref10_Split.l0
      rw [if_neg (by omega)]
      unfold finS
      split <;> rename_i h1 <;> split <;> rename_i h2
      · rfl
      · omega
      · omega
      · rfl
    · rw [if_neg ho, if_neg ho]
  | succ d ih =>
    intro k i st acc hi hst hk ha
    obtain ⟨k, rfl⟩ : ∃ j, k = j + 1 + 1 := ⟨k - 2, by omega⟩
    have h0 : i < p.data.toList.length := by rw [← size_len]; omega
    unfold PTreeTwins.mailbagref10_Split.l0
    rw [if_pos (by omega), if_pos (by omega), if_pos (by omega), bt_get p i h0, List.drop_eq_getElem_cons h0]
    unfold PTreeTwins.mailbagref10_Split.j2
    unfold specS
    by_cases hc : p.data.toList[i] = 47
    · have hcn : (((p.data.toList[i]).toNat : Int) != 47) = false := by rw [hc]; rfl
      rw [if_pos hc, hcn, if_neg (by decide), if_pos (by omega), if_pos (by omega), if_pos (by omega), refName_f _ _ (by omega)]
      simp only [Option.bind_some, Int.toNat_natCast]
      rw [extract_list]
      by_cases ho : nameOk (baOf ((p.data.toList.drop st).take (i - st))) = true
      · rw [if_pos ho, if_pos ho, if_pos (by omega), wrap_in _ (by omega) (by omega)]
        have := ih k (i + 1) (i + 1) (acc ++ [baOf ((p.data.toList.drop st).take (i - st))]) (by omega) (Nat.le_refl _) (by omega) (by simp; omega)
        rw [Nat.sub_self, List.take_zero] at this
        rw [show ((i : Int) + 1) = ((i + 1 : Nat) : Int) from by omega]
        exact this
      · rw [if_neg ho, if_neg ho]
    · have hcn : (((p.data.toList[i]).toNat : Int) != 47) = true := by
        have : p.data.toList[i].toNat ≠ 47 := fun e => hc (UInt8.toNat_inj.1 (by rw [e]; rfl))
        exact bne_iff_ne.2 (by omega)
      rw [if_neg hc, hcn, if_pos rfl, wrap_in _ (by omega) (by omega)]
      have := ih k (i + 1) st acc (by omega) (by omega) (by omega) (by omega)
      rw [show ((i : Int) + 1) = ((i + 1 : Nat) : Int) from by omega, this]
      congr 2
      rw [show i + 1 - st = (i - st) + 1 from by omega, List.take_add_one]
      congr 1
      rw [List.getElem?_drop, show st + (i - st) = i from by omega, List.getElem?_eq_getElem h0]
      rfl
theorem refSplit_f (p : ByteArray) (k : Nat) (hk : 600 ≤ k) : PTreeTwins.mailbagref10_Split.f k p = some (splitP p) := by
  obtain ⟨k, rfl⟩ : ∃ j, k = j + 1 := ⟨k - 1, by omega⟩
  unfold PTreeTwins.mailbagref10_Split.f splitP
  by_cases h0 : p.size > 256
  · rw [if_pos (by omega), if_pos h0]
  · rw [if_neg (by omega), if_neg h0]
    simp only [ba_list]
    have hs := size_len p
    cases hl : p.data.toList with
    | nil =>
      rw [if_pos rfl]
      simp only [PTreeTwins.mailbagref10_Split.j0, if_true]
    | cons c rest =>
      rw [hl, List.length_cons] at hs
      rw [if_neg (by simp), if_pos (by omega)]
      have hb0 := bt_get p 0 (by rw [hl]; simp)
      have hb1 : p.data.toList[0]'(by rw [hl]; simp) = c := by simp [hl]
      rw [hb1] at hb0
      rw [show ((0 : Nat) : Int) = 0 from rfl] at hb0
      rw [hb0]
      simp only [PTreeTwins.mailbagref10_Split.j0, ba_list, hl]
      by_cases hc : c = 47
      · subst hc
        rw [if_neg (show ¬ (((47 : UInt8).toNat : Int) != 47) = true by decide), if_neg (show ¬ ((47 : UInt8) ≠ 47) by decide)]
        by_cases hr : rest = []
        · subst hr; rw [if_pos rfl, if_pos rfl]
        · rw [if_neg (show ¬ (47 :: rest = [47]) from fun e => hr (by injection e)), if_neg hr]
          have := refSplit_l0 p (by omega) rest.length k 1 1 [] (by omega) (Nat.le_refl _) (by omega) (by simp)
          rw [hl] at this
          simp only [Nat.sub_self, List.take_zero, List.drop_succ_cons, List.drop_zero] at this
          rw [show ((1 : Nat) : Int) = 1 from rfl] at this
          rw [this, specS_root]
          congr 1
          have he : ((splitOn rest).map baOf) = (splitOn rest).map fun x => (⟨x.toArray⟩ : ByteArray) := rfl
          rw [he]
          unfold finS
          simp only [List.length_map]
      · have hcn : ((c.toNat : Int) != 47) = true := by
          have : c.toNat ≠ 47 := fun e => hc (UInt8.toNat_inj.1 (by rw [e]; rfl))
          exact bne_iff_ne.2 (by omega)
        rw [hcn, if_pos rfl, if_pos hc]
theorem splitP_ok (p : ByteArray) : ∀ n ∈ (splitP p).1, nameOk n = true ∧ n ≠ ByteArray.empty := by
  have hne : ∀ n, nameOk n = true → n ≠ ByteArray.empty := fun n h e => by subst e; revert h; decide
  unfold splitP
  split
  · simp
  · cases p.data.toList with
    | nil => simp
    | cons c rest =>
      simp only
      split
      · simp
      · split
        · simp
        · split
          · rename_i h
            split
            · simp
            · intro n hn
              have := List.all_eq_true.1 h n hn
              exact ⟨this, hne n this⟩
          · simp
end Go.Proofs.YtmjhflmkgmfjkaaGreatDoor
namespace Go.Proofs
open Go.RowKit Go.Shelf Go.Lib
def Tryz.laysPre_ren : Go.Shelf.Ren := ⟨fun | 206 => 111 | n => n, fun | 9 => 9 | 4 => 4 | 3 => 3 | n => n, fun | n => n⟩
theorem Tryz.laysPre : Go.Proofs.Lays.n206 Tryz.prog Tryz.laysPre_ren := {
  mixed := by kernel_rfl
  f206 := Tryz.func111.trans (congrArg some (by kernel_rfl))
  t3 := Tryz.underlying3
  a3 := Tryz.isAgg3
  z3 := Tryz.sizeOf3
  v3 := Tryz.zeroValue3
  t4 := Tryz.underlying4
  a4 := Tryz.isAgg4
  z4 := Tryz.sizeOf4
  v4 := Tryz.zeroValue4
  t9 := Tryz.underlying9
  a9 := Tryz.isAgg9
  z9 := Tryz.sizeOf9
  v9 := Tryz.zeroValue9 }
end Go.Proofs
namespace Go.Proofs.YtmjhflmkgmfjkaaGreatDoor
open Go.RowKit Go.Proofs.YtmjhflmkgmfjkaaGreatDoorW.PrintWords Go.Proofs.YtmjhflmkgmfjkaaGreatDoorW.PrintMore
open PTreeTwins (S58 S106 S35 z58 z106)
theorem splitK_eq : ∀ l : List UInt8, Lib.splitK [47] 0 (Lib.count l [47]) l = splitOn l
  | [] => by
    have : Lib.count [] [47] = 0 := by rw [Lib.count_one]; rfl
    rw [this]; rfl
  | c :: l => by
    have ih := splitK_eq l
    by_cases hc : c = 47
    · subst hc
      rw [Lib.count_cons_eq, Nat.add_comm]
      have hi : Lib.index (47 :: l) [47] = 0 := by unfold Lib.index; rw [if_pos (by simp)]
      unfold Lib.splitK splitOn
      rw [if_neg (by rw [hi]; decide), hi, if_pos rfl, ← ih]
      rfl
    · rw [Lib.count_cons_ne _ _ _ hc]
      have hi : Lib.index (c :: l) [47] = if Lib.index l [47] == -1 then -1 else Lib.index l [47] + 1 := by
        conv => lhs; unfold Lib.index
        rw [if_neg (by simp; exact fun e => hc e.symm)]
      unfold splitOn
      rw [if_neg hc, ← ih]
      cases hn : Lib.count l [47] with
      | zero => rfl
      | succ n =>
        unfold Lib.splitK
        by_cases h1 : (Lib.index l [47] == -1) = true
        · rw [if_pos h1, hi, if_pos h1, if_pos (by decide)]
        · have hge := Lib.index_ge l [47]
          have hne : Lib.index l [47] ≠ -1 := fun e => h1 (by rw [e]; rfl)
          rw [if_neg h1, hi, if_neg h1, if_neg (by simp; omega)]
          have hN : (Lib.index l [47] + 1).toNat = (Lib.index l [47]).toNat + 1 := by omega
          rw [hN]
          simp only [Nat.add_zero, List.take_succ_cons, List.length_singleton]
          congr 1
theorem splitB_eq (s : ByteArray) : Lib.splitB ⟨#[47]⟩ 0 (Lib.countB s ⟨#[47]⟩) s = (splitOn s.data.toList).map baOf := by
  have h := Lib.splitB_data ⟨#[47]⟩ 0 (Lib.countB s ⟨#[47]⟩) s
  have h2 : Lib.splitK [47] 0 (Lib.countB s ⟨#[47]⟩) s.data.toList = splitOn s.data.toList := splitK_eq _
  have h3 : ((⟨#[47]⟩ : ByteArray).data.toList) = [47] := rfl
  rw [h3, h2] at h
  rw [← h, List.map_map]
  exact ((List.map_id' _).symm.trans (List.map_congr_left (fun x _ => by simp [baOf])))
theorem splitOn_len : ∀ l : List UInt8, 1 ≤ (splitOn l).length ∧ (splitOn l).length ≤ l.length + 1
  | [] => by simp [splitOn]
  | c :: l => by
    have ih := splitOn_len l
    unfold splitOn
    split
    · simp; omega
    · cases h : splitOn l with
      | nil => rw [h] at ih; simp at ih
      | cons x t => rw [h] at ih; simp at ih ⊢; omega
theorem C_strings (w : World) (xs : List ByteArray) (hx : xs.length ≤ 9223372036854775807) (e : Nat) : Kd.C Kd.string (w.alloc (.cells (xs.map Value.string).toArray e)) (some ⟨w.heap.size, 0, none⟩) xs.length xs := by
  refine Kd.C_of_reads (d := ByteArray.empty) ⟨rfl, hx, fun _ => ⟨_, rfl, fun j hj => ?_⟩⟩
  have h := heap_alloc_new w (.cells (xs.map Value.string).toArray e)
  have ha : (⟨w.heap.size, 0, none⟩ : Addr).add j = ⟨w.heap.size, j, none⟩ := by
    unfold Addr.add; split <;> simp_all
  rw [ha]
  unfold World.cell?
  rw [h]
  simp [hj]
theorem hasPrefix_calls (s : ByteArray) (w : World) : Calls Tryz.prog 111 #[.string s, .string ⟨#[47]⟩] w fun e w' => e = .returned (.bool (Lib.hasPrefix s.data.toList [47])) ∧ w = w' :=
  (Any.stringslite_HasPrefix Tryz.laysPre s ⟨#[47]⟩ w).mono (fun e w' h => ⟨h.1, h.2.symm⟩)
def cutOf (s : ByteArray) : ByteArray × Bool := match s.data.toList with
  | [] => (s, false)
  | c :: rest => if c = 47 then (baOf rest, true) else (s, false)
theorem cutPre_calls (s : ByteArray) (w : World) (hs : s.size ≤ 9223372036854775807) : Calls Tryz.prog 92 #[.string s, .string ⟨#[47]⟩] w fun e w' => e = .returned (.tuple #[.string (cutOf s).1, .bool (cutOf s).2]) ∧ w = w' := by
  have hp : ∀ W, Calls Tryz.prog 111 #[.string s, .string ⟨#[47]⟩] W fun e w' => e = .returned (.bool (cutOf s).2) ∧ W = w' := fun W => by
    refine (hasPrefix_calls s W).mono (fun e w' h => ⟨?_, h.2⟩)
    rw [h.1]
    congr 2
    unfold cutOf Lib.hasPrefix
    cases s.data.toList with
    | nil => rfl
    | cons c rest =>
      by_cases hc : c = 47
      · subst hc; rfl
      · simp only [if_neg hc]
        have h1 : ((47 : UInt8) == c) = false := by rw [beq_eq_false_iff_ne]; exact fun e => hc e.symm
        simp [List.isPrefixOf, h1]
  cases hb : (cutOf s).2 with
  | false =>
    have h1 : (cutOf s).1 = s := by
      unfold cutOf at hb ⊢
      cases hl : s.data.toList with
      | nil => rfl
      | cons c rest => rw [hl] at hb; simp only at hb ⊢; split at hb <;> simp_all
    rw [hb] at hp
    rw [h1]
    go_enter Tryz.func92, Tryz.ntmps92
    go_wp2_with (go_at_call 111; refine (hp _).mono ?_; rintro e w' ⟨rfl, rfl⟩)
    go_ret2
    exact ⟨rfl, rfl⟩
  | true =>
    have h1 : (cutOf s).1 = s.extract 1 s.size ∧ 1 ≤ s.size := by
      have hsl := size_len s
      unfold cutOf at hb ⊢
      cases hl : s.data.toList with
      | nil => rw [hl] at hb; simp at hb
      | cons c rest =>
        rw [hl] at hb hsl
        simp only at hb ⊢
        split at hb
        · rename_i hc
          rw [if_pos hc, extract_list, hl]
          simp only [List.drop_succ_cons, List.drop_zero]
          simp only [List.length_cons] at hsl
          constructor
          · rw [List.take_of_length_le (by omega)]
          · omega
        · cases hb
    obtain ⟨h1, h2⟩ := h1
    rw [hb] at hp
    rw [h1]
    go_enter Tryz.func92, Tryz.ntmps92
    go_wp2_with (go_at_call 111; refine (hp _).mono ?_; rintro e w' ⟨rfl, rfl⟩)
    go_ret2
    exact ⟨rfl, rfl⟩
theorem cutPrefix_calls (s : ByteArray) (w : World) (hs : s.size ≤ 9223372036854775807) : Calls Tryz.prog 63 #[.string s, .string ⟨#[47]⟩] w fun e w' => e = .returned (.tuple #[.string (cutOf s).1, .bool (cutOf s).2]) ∧ w = w' := by
  have hc := fun W => cutPre_calls s W hs
  go_enter Tryz.func63, Tryz.ntmps63
  go_wp2_with (go_at_call 92; refine (hc _).mono ?_; rintro e w' ⟨rfl, rfl⟩)
  go_ret2
  exact ⟨rfl, rfl⟩
end Go.Proofs.YtmjhflmkgmfjkaaGreatDoor
namespace Go.Proofs.YtmjhflmkgmfjkaaGreatDoor
open Go.RowKit Go.Proofs.YtmjhflmkgmfjkaaGreatDoorW.PrintWords Go.Proofs.YtmjhflmkgmfjkaaGreatDoorW.PrintMore
open PTreeTwins (S58 S106 S35 z58 z106)
def checkOf (l : List ByteArray) : Int := if l.all nameOk = true then (if l.length > 8 then 5 else 0) else 12
theorem name_calls (p : ByteArray) (W : World) : Calls Tryz.prog 94 #[.string p] W fun e w' => e = .returned (.bool (nameOk p)) ∧ ∃ n, w' = W.drewN n := by
  refine (PTreeTwins.dir_Name.calls 52 p (nameOk p) W ?_).mono (fun e w' h => ⟨h.1, h.2.out⟩)
  exact dirName_f p 52 (Nat.le_refl _)
set_option maxHeartbeats 1000000 in
set_option maxRecDepth 100000 in
theorem check_calls (A : Option Addr) (c : Nat) (l : List ByteArray) (w : World) (hl : Kd.C Kd.string w A l.length l) (hc : l.length ≤ c) :
    Calls Tryz.prog 65 #[.slice A l.length c] w fun e w' => e = .returned (.int .i64 (checkOf l)) ∧ ∃ n, w' = w.drewN n := by
  have hmx : l.length ≤ 9223372036854775807 := Kd.C_max hl
  have hname := name_calls
  go_enter Tryz.func65, Tryz.ntmps65
  go_wp2
  go_step3
  go_wp2
  go_step3
  go_wp2
  go_loopw [8, 3] (fun i b wr => ∃ k : Nat, k ≤ l.length ∧ i = .int .i64 k ∧ b = .bool false ∧ (l.take k).all nameOk = true ∧ ∃ q, wr = w.drewN q) (fun i _ _ => l.length - (intOf i).toNat)
  case atStart => exact ⟨0, Nat.zero_le _, rfl, rfl, rfl, 0, rfl⟩
  case round =>
    obtain ⟨k, hk, rfl, rfl, hall, q, hq⟩ := hrel
    by_cases hlt : k < l.length
    · obtain ⟨ad, rfl, hcell⟩ := Kd.at_string hl (k : Int) (by omega) (by omega)
      rw [Int.toNat_natCast] at hcell
      have hrd : rdOf ByteArray.empty l (k : Int) = l[k] := by simp [rdOf, hlt]
      rw [hrd] at hcell
      have hcell' : wr.cell? (ad.add k) = some (.string l[k]) := by rw [hq]; exact hcell
      obtain ⟨p, hp⟩ : ∃ p, p = l[k] := ⟨_, rfl⟩
      rw [← hp] at hcell'
      have hn := hname p
      have Hp := Lib.hid hp
      have Hq := Lib.hid hq
      have Hall := Lib.hid hall
      clear hcell hrd hp hq hname hall
      cases hb : nameOk p with
      | true =>
        rw [hb] at hn
        have Hb := Lib.hid hb
        clear hb
        go_wp2_with (go_at_call 94; refine (hn _).mono ?_; rintro e w' ⟨rfl, q2, rfl⟩)
        go_roundw
        case rel =>
          refine ⟨k + 1, by omega, by go_num, rfl, ?_, ?_⟩
          · rw [List.take_succ_eq_append_getElem hlt, List.all_append, Hall.out, ← Hp.out]
            simp [Hb.out]
          · rw [Hq.out]; exact ((Drawn0.mk ⟨q, rfl⟩).step q2).out
        case measure => simp [intOf]; omega
      | false =>
        rw [hb] at hn
        have Hb := Lib.hid hb
        clear hb
        go_wp2_with (go_at_call 94; refine (hn _).mono ?_; rintro e w' ⟨rfl, q2, rfl⟩)
        rw [Exit.noGoto_ret]
        go_ret
        refine ⟨?_, by rw [Hq.out]; exact ((Drawn0.mk ⟨q, rfl⟩).step q2).out⟩
        have : ¬ l.all nameOk = true := fun h => by
          have := List.all_eq_true.1 h l[k] (List.getElem_mem hlt)
          rw [← Hp.out, Hb.out] at this
          cases this
        unfold checkOf
        rw [if_neg this]
        rfl
    · have hkl : k = l.length := by omega
      subst hkl
      rw [List.take_length] at hall
      have Hall := Lib.hid hall
      have Hq := Lib.hid hq
      clear hall hq hname
      by_cases h8 : l.length > 8
      · have d1 : decide ((8 : Int) < (l.length : Int)) = true := by simp; omega
        have d2 : decide (8 < l.length) = true := by simp; omega
        have h8' := Lib.hid h8
        go_wp2
        rw [Exit.noGoto_ret]
        go_ret
        refine ⟨?_, by rw [Hq.out]; exact ⟨_, rfl⟩⟩
        unfold checkOf
        rw [if_pos Hall.out, if_pos h8'.out]
        rfl
      · have d1 : decide ((8 : Int) < (l.length : Int)) = false := by simp; omega
        have d2 : decide (8 < l.length) = false := by simp; omega
        have h8' := Lib.hid h8
        go_wp2
        rw [Exit.noGoto_ret]
        go_ret
        refine ⟨?_, by rw [Hq.out]; exact ⟨_, rfl⟩⟩
        unfold checkOf
        rw [if_pos Hall.out, if_neg h8'.out]
        rfl
theorem splitP_cut (p : ByteArray) : splitP p = if p.size > 256 then ([], 5) else if (cutOf p).2 = false then ([], 12) else if (cutOf p).1.data.toList = [] then ([], 0) else
    if checkOf ((splitOn (cutOf p).1.data.toList).map baOf) = 0 then ((splitOn (cutOf p).1.data.toList).map baOf, 0) else ([], checkOf ((splitOn (cutOf p).1.data.toList).map baOf)) := by
  unfold splitP cutOf
  split
  · rfl
  · cases p.data.toList with
    | nil => rfl
    | cons c rest =>
      simp only
      by_cases hc : c = 47
      · rw [if_neg (by simpa using hc)]
        simp only [if_pos hc, baOf_list]
        rw [if_neg (show ¬ (true = false) by decide)]
        by_cases hr : rest = []
        · rw [if_pos hr, if_pos hr]
        · rw [if_neg hr, if_neg hr]
          have he : ((splitOn rest).map fun x => (⟨x.toArray⟩ : ByteArray)) = (splitOn rest).map baOf := rfl
          rw [he]
          unfold checkOf
          simp only [List.length_map]
          by_cases h1 : ((splitOn rest).map baOf).all nameOk = true
          · rw [if_pos h1, if_pos h1]
            by_cases h2 : (splitOn rest).length > 8
            · rw [if_pos h2, if_pos h2]; rfl
            · rw [if_neg h2, if_neg h2]; rfl
          · rw [if_neg h1, if_neg h1]; rfl
      · rw [if_pos hc]
        simp only [if_neg hc]
        rfl
def SplitPost (w : World) (p : ByteArray) (e : Ending) (w' : World) : Prop :=
  ∃ A c, e = .returned (.tuple #[.slice A (splitP p).1.length c, .int .i64 (splitP p).2]) ∧ (splitP p).1.length ≤ c ∧ Kd.C Kd.string w' A (splitP p).1.length (splitP p).1 ∧ Below w.heap.size w w'
theorem SplitPost.of {w : World} {p : ByteArray} {w' : World} {A : Option Addr} {c : Nat} {l : List ByteArray} {n : Int} {v : Value} (h : splitP p = (l, n)) (hv : v = .tuple #[.slice A l.length c, .int .i64 n]) (hc : l.length ≤ c) (hC : Kd.C Kd.string w' A l.length l) (hb : Below w.heap.size w w') : SplitPost w p (.returned v) w' := by
  unfold SplitPost
  rw [h, hv]
  exact ⟨A, c, rfl, hc, hC, hb⟩
theorem C_nil (w : World) : Kd.C Kd.string w none 0 [] := ⟨rfl, Nat.zero_le _, fun h => absurd h (by decide)⟩
set_option maxHeartbeats 1000000 in
set_option maxRecDepth 100000 in
theorem split_calls (p : ByteArray) (w : World) : Calls Tryz.prog 35 #[.string p] w (SplitPost w p) := by
  have hS := splitP_cut p
  by_cases h0 : p.size > 256
  · rw [if_pos h0] at hS
    have d1 : decide ((256 : Int) < (p.size : Int)) = true := by simp; omega
    have d2 : decide (256 < p.size) = true := by simp; omega
    have HS := Lib.hid hS
    clear hS h0
    go_enter Tryz.func35, Tryz.ntmps35
    go_wp2
    go_ret2
    exact SplitPost.of HS.out rfl (Nat.le_refl _) (C_nil _) (Below.refl _ _)
  · rw [if_neg h0] at hS
    have d1 : decide ((256 : Int) < (p.size : Int)) = false := by simp; omega
    have d2 : decide (256 < p.size) = false := by simp; omega
    have hcut := fun W => cutPrefix_calls p W (by omega)
    obtain ⟨⟨rest, is⟩, hr⟩ : ∃ q, q = cutOf p := ⟨_, rfl⟩
    have hrl : rest.size ≤ 256 := by
      have h1 : rest = (cutOf p).1 := by rw [← hr]
      rw [h1]
      unfold cutOf
      have := size_len p
      cases hl : p.data.toList with
      | nil => simp only; omega
      | cons c l =>
        rw [hl, List.length_cons] at this
        simp only
        split
        · simp only; rw [size_len, baOf_list]; omega
        · simp only; omega
    rw [← hr] at hcut hS
    simp only at hcut hS
    cases is with
    | false =>
      rw [if_pos rfl] at hS
      have HS := Lib.hid hS
      clear hS h0 hr
      go_enter Tryz.func35, Tryz.ntmps35
      go_wp2_with (go_at_call 63; refine (hcut _).mono ?_; rintro e w' ⟨rfl, rfl⟩)
      go_ret2
      exact SplitPost.of HS.out rfl (Nat.le_refl _) (C_nil _) (Below.refl _ _)
    | true =>
      rw [if_neg (by decide)] at hS
      by_cases h1 : rest.data.toList = []
      · rw [if_pos h1] at hS
        have HS := Lib.hid hS
        have h2 : rest = ⟨#[]⟩ := ByteArray.ext (Array.toList_inj.1 (by rw [h1]))
        clear hS h0 hr h1
        subst h2
        go_enter Tryz.func35, Tryz.ntmps35
        go_wp2_with (go_at_call 63; refine (hcut _).mono ?_; rintro e w' ⟨rfl, rfl⟩)
        go_ret2
        exact SplitPost.of HS.out rfl (Nat.le_refl _) (C_nil _) (Below.refl _ _)
      · rw [if_neg h1] at hS
        have hse : (rest.toList == ([] : List UInt8)) = false := by rw [ByteArray.toList_eq]; simpa using h1
        have hse2 : rest.toList.isEmpty = false := by rw [ByteArray.toList_eq]; simpa using h1
        have hse3 : decide (rest.toList = ([] : List UInt8)) = false := by rw [ByteArray.toList_eq]; simpa using h1
        obtain ⟨l, hl⟩ : ∃ l, l = (splitOn rest.data.toList).map baOf := ⟨_, rfl⟩
        have hlib : ∀ W, Calls Tryz.prog 64 #[.string rest, .string ⟨#[47]⟩] W fun e w' => e = .returned (.slice (some ⟨W.heap.size, 0, none⟩) l.length l.length) ∧ w' = W.alloc (.cells (l.map Value.string).toArray 9) := fun W => by
          refine (split_lib rest 47 W (by omega)).mono (fun e w' h => ?_)
          obtain ⟨g1, g2⟩ := h
          have hlen := Lib.splitB_all ⟨#[47]⟩ (by decide) 0 _ rest rfl
          rw [splitB_eq, ← hl] at hlen g2
          rw [← hlen] at g1
          exact ⟨g1, g2⟩
        have hll : l.length ≤ 300 := by
          have h2 := splitOn_len rest.data.toList
          rw [hl, List.length_map]
          rw [size_len] at hrl
          omega
        rw [← hl] at hS
        have hck : ∀ W : World, Calls Tryz.prog 65 #[.slice (some ⟨W.heap.size, 0, none⟩) l.length l.length] (W.alloc (.cells (l.map Value.string).toArray 9)) fun e w' => e = .returned (.int .i64 (checkOf l)) ∧ ∃ n, w' = (W.alloc (.cells (l.map Value.string).toArray 9)).drewN n := fun W =>
          check_calls _ l.length l _ (C_strings W l (by omega) 9) (Nat.le_refl _)
        obtain ⟨ck, hckv⟩ : ∃ ck, ck = checkOf l := ⟨_, rfl⟩
        rw [← hckv] at hS hck
        have hC := C_strings w l (by omega) 9
        have HC := Lib.hid hC
        clear hl hckv h0 hr h1 hC
        by_cases hz : ck = 0
        · rw [if_pos hz] at hS
          have HS := Lib.hid hS
          clear hS
          subst hz
          go_enter Tryz.func35, Tryz.ntmps35
          go_wp2_with (first
            | (go_at_call 63; refine (hcut _).mono ?_; rintro e w' ⟨rfl, rfl⟩)
            | (go_at_call 64; refine (hlib _).mono ?_; rintro e w' ⟨rfl, rfl⟩)
            | (go_at_call 65; refine (hck _).mono ?_; rintro e w' ⟨rfl, n, rfl⟩))
          go_ret2
          exact SplitPost.of HS.out rfl (Nat.le_refl _) (Kd.C_below HC.out (pw_below_drewN (Below.refl _ _) n)) (pw_below_drewN ((Below.refl _ w).alloc (Nat.le_refl _) _) n)
        · rw [if_neg hz] at hS
          have HS := Lib.hid hS
          have hz1 : (ck != 0) = true := by simpa using hz
          have hz2 : (ck == 0) = false := by simpa using hz
          clear hS hz
          go_enter Tryz.func35, Tryz.ntmps35
          go_wp2_with (first
            | (go_at_call 63; refine (hcut _).mono ?_; rintro e w' ⟨rfl, rfl⟩)
            | (go_at_call 64; refine (hlib _).mono ?_; rintro e w' ⟨rfl, rfl⟩)
            | (go_at_call 65; refine (hck _).mono ?_; rintro e w' ⟨rfl, n, rfl⟩))
          go_ret2
          exact SplitPost.of HS.out rfl (Nat.le_refl _) (C_nil _) (pw_below_drewN ((Below.refl _ w).alloc (Nat.le_refl _) _) n)
end Go.Proofs.YtmjhflmkgmfjkaaGreatDoor
