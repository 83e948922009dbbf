/- A part of the proof: N9, N10, N11, N12, N13. -/
import Derived.Shelf.SlIter.Nil
import Derived.Shelf.SortM.Plain
import Derived.Shelf.SortM.SortNone
import Derived.Ground.GgzProg
import Derived.Ground.SlgmProg
import Derived.Test.YtmjhflmkgmfjkaaGreatDoorNa
import Derived.RangeFuncNested
import Derived.RangeFuncBound
import Derived.RangeFuncCalls
import Derived.RangeFuncLeaves
import Derived.Shelf.Abstract
import Derived.Shelf.RegionOpen
import Derived.OwnWalkIn
import Derived.TacticsInMore
import Derived.LoopNIn
import Derived.LoopIn
set_option linter.unusedVariables false
set_option linter.unusedSimpArgs false
namespace Go.Proofs
open Go.RowKit Go.Maps Go.Sort Go.Shelf
def Tryz.keys34_ren : Go.Shelf.Ren := ⟨fun | 7 => 34 | 10 => 62 | n => n, fun | 23 => 83 | 26 => 9 | 3 => 52 | 28 => 88 | 0 => 0 | 27 => 87 | 33 => 98 | 4 => 4 | n => n, fun | n => n⟩
theorem Tryz.keys34 : Go.Proofs.SlLaysZ.n7 Tryz.prog Tryz.keys34_ren := {
  mixed := by kernel_rfl
  f7 := ⟨Tryz.f34.name, by decide, Tryz.func34.trans (congrArg some (by kernel_rfl))⟩
  f10 := ⟨Tryz.f62.name, by decide, Tryz.func62.trans (congrArg some (by kernel_rfl))⟩
  t0 := Tryz.underlying0
  a0 := Tryz.isAgg0
  z0 := Tryz.sizeOf0
  v0 := Tryz.zeroValue0
  t4 := Tryz.underlying4
  a4 := Tryz.isAgg4
  z4 := Tryz.sizeOf4
  v4 := Tryz.zeroValue4
  t23 := Tryz.underlying83
  a23 := Tryz.isAgg83
  z23 := Tryz.sizeOf83
  v23 := Tryz.zeroValue83
  t26 := Tryz.underlying9
  a26 := Tryz.isAgg9
  z26 := Tryz.sizeOf9
  v26 := Tryz.zeroValue9
  t27 := Tryz.underlying87
  a27 := Tryz.isAgg87
  z27 := Tryz.sizeOf87
  v27 := Tryz.zeroValue87
  t28 := Tryz.underlying88
  a28 := Tryz.isAgg88
  z28 := Tryz.sizeOf88
  v28 := Tryz.zeroValue88
  t33 := Tryz.underlying98
  a33 := Tryz.isAgg98
  z33 := Tryz.sizeOf98
  v33 := Tryz.zeroValue98 }
def Tryz.sorted33_ren : Go.Shelf.Ren := ⟨fun | 6 => 33 | 8 => 60 | 9 => 61 | 11 => 89 | 13 => 91 | 12 => 90 | 23 => 109 | 24 => 110 | 14 => 100 | 15 => 101 | 16 => 102 | 17 => 103 | 18 => 104 | 19 => 105 | 20 => 106 | 21 => 107 | 22 => 108 | 25 => 116 | 26 => 117 | 27 => 118 | 28 => 119 | 29 => 120 | 30 => 121 | 31 => 126 | n => n, fun | 26 => 9 | 28 => 88 | 24 => 47 | 0 => 0 | 3 => 3 | 37 => 142 | 48 => 157 | 50 => 159 | 4 => 4 | 40 => 149 | 39 => 148 | 45 => 154 | 5 => 5 | 9 => 9 | 51 => 163 | 55 => 167 | 57 => 173 | 58 => 50 | 33 => 98 | n => n, fun | n => n⟩
theorem Tryz.sorted33 : Go.Proofs.SlLaysZ.n6 Tryz.prog Tryz.sorted33_ren := {
  mixed := by kernel_rfl
  f6 := ⟨Tryz.f33.name, by decide, Tryz.func33.trans (congrArg some (by kernel_rfl))⟩
  f8 := ⟨Tryz.f60.name, by decide, Tryz.func60.trans (congrArg some (by kernel_rfl))⟩
  f11 := ⟨Tryz.f89.name, by decide, Tryz.func89.trans (congrArg some (by kernel_rfl))⟩
  t0 := Tryz.underlying0
  a0 := Tryz.isAgg0
  z0 := Tryz.sizeOf0
  v0 := Tryz.zeroValue0
  t24 := Tryz.underlying47
  a24 := Tryz.isAgg47
  z24 := Tryz.sizeOf47
  v24 := Tryz.zeroValue47
  t26 := Tryz.underlying9
  a26 := Tryz.isAgg9
  z26 := Tryz.sizeOf9
  v26 := Tryz.zeroValue9
  t28 := Tryz.underlying88
  a28 := Tryz.isAgg88
  z28 := Tryz.sizeOf88
  v28 := Tryz.zeroValue88
  i26 := by kernel_rfl }
def Tryz.sort61_ren : Go.Shelf.Ren := ⟨fun | 6 => 61 | 8 => 91 | 9 => 90 | 19 => 109 | 20 => 110 | 21 => 100 | 22 => 101 | 23 => 102 | 24 => 103 | 25 => 104 | 26 => 105 | 27 => 106 | 28 => 107 | 29 => 108 | 36 => 116 | 31 => 117 | 32 => 118 | 37 => 119 | 38 => 120 | 39 => 121 | 41 => 126 | n => n, fun | 27 => 47 | 29 => 9 | 3 => 3 | 32 => 142 | 26 => 47 | 0 => 0 | 44 => 157 | 46 => 159 | 4 => 4 | 36 => 149 | 35 => 148 | 41 => 154 | 5 => 5 | 9 => 9 | 53 => 163 | 57 => 167 | 63 => 173 | 64 => 50 | n => n, fun | n => n⟩
theorem Tryz.sort61 : Go.Proofs.SlLaysM.n6 Tryz.prog Tryz.sort61_ren := {
  mixed := by kernel_rfl
  f6 := ⟨Tryz.f61.name, by decide, Tryz.func61.trans (congrArg some (by kernel_rfl))⟩
  f8 := Tryz.func91.trans (congrArg some (by kernel_rfl))
  f9 := ⟨Tryz.f90.name, by decide, Tryz.func90.trans (congrArg some (by kernel_rfl))⟩
  f19 := Tryz.func109.trans (congrArg some (by kernel_rfl))
  f20 := Tryz.func110.trans (congrArg some (by kernel_rfl))
  f21 := ⟨Tryz.f100.name, by decide, Tryz.func100.trans (congrArg some (by kernel_rfl))⟩
  f22 := ⟨Tryz.f101.name, by decide, Tryz.func101.trans (congrArg some (by kernel_rfl))⟩
  f23 := ⟨Tryz.f102.name, by decide, Tryz.func102.trans (congrArg some (by kernel_rfl))⟩
  f24 := ⟨Tryz.f103.name, by decide, Tryz.func103.trans (congrArg some (by kernel_rfl))⟩
  f25 := ⟨Tryz.f104.name, by decide, Tryz.func104.trans (congrArg some (by kernel_rfl))⟩
  f26 := ⟨Tryz.f105.name, by decide, Tryz.func105.trans (congrArg some (by kernel_rfl))⟩
  f27 := ⟨Tryz.f106.name, by decide, Tryz.func106.trans (congrArg some (by kernel_rfl))⟩
  f28 := ⟨Tryz.f107.name, by decide, Tryz.func107.trans (congrArg some (by kernel_rfl))⟩
  f29 := ⟨Tryz.f108.name, by decide, Tryz.func108.trans (congrArg some (by kernel_rfl))⟩
  f31 := Tryz.func117.trans (congrArg some (by kernel_rfl))
  f32 := Tryz.func118.trans (congrArg some (by kernel_rfl))
  f36 := ⟨Tryz.f116.name, by decide, Tryz.func116.trans (congrArg some (by kernel_rfl))⟩
  f37 := ⟨Tryz.f119.name, by decide, Tryz.func119.trans (congrArg some (by kernel_rfl))⟩
  f38 := ⟨Tryz.f120.name, by decide, Tryz.func120.trans (congrArg some (by kernel_rfl))⟩
  f39 := ⟨Tryz.f121.name, by decide, Tryz.func121.trans (congrArg some (by kernel_rfl))⟩
  f41 := ⟨Tryz.f126.name, by decide, Tryz.func126.trans (congrArg some (by kernel_rfl))⟩
  t0 := Tryz.underlying0
  a0 := Tryz.isAgg0
  z0 := Tryz.sizeOf0
  v0 := Tryz.zeroValue0
  t3 := Tryz.underlying3
  a3 := Tryz.isAgg3
  z3 := Tryz.sizeOf3
  v3 := Tryz.zeroValue3
  t4 := Tryz.underlying4
  a4 := Tryz.isAgg4
  z4 := Tryz.sizeOf4
  v4 := Tryz.zeroValue4
  t5 := Tryz.underlying5
  a5 := Tryz.isAgg5
  z5 := Tryz.sizeOf5
  v5 := Tryz.zeroValue5
  t9 := Tryz.underlying9
  a9 := Tryz.isAgg9
  z9 := Tryz.sizeOf9
  v9 := Tryz.zeroValue9
  t26 := Tryz.underlying47
  a26 := Tryz.isAgg47
  z26 := Tryz.sizeOf47
  v26 := Tryz.zeroValue47
  t27 := Tryz.underlying47
  a27 := Tryz.isAgg47
  z27 := Tryz.sizeOf47
  v27 := Tryz.zeroValue47
  t29 := Tryz.underlying9
  a29 := Tryz.isAgg9
  z29 := Tryz.sizeOf9
  v29 := Tryz.zeroValue9
  t32 := Tryz.underlying142
  a32 := Tryz.isAgg142
  z32 := Tryz.sizeOf142
  v32 := Tryz.zeroValue142
  t35 := Tryz.underlying148
  a35 := Tryz.isAgg148
  z35 := Tryz.sizeOf148
  v35 := Tryz.zeroValue148
  t36 := Tryz.underlying149
  a36 := Tryz.isAgg149
  z36 := Tryz.sizeOf149
  v36 := Tryz.zeroValue149
  t41 := Tryz.underlying154
  a41 := Tryz.isAgg154
  z41 := Tryz.sizeOf154
  v41 := Tryz.zeroValue154
  t44 := Tryz.underlying157
  a44 := Tryz.isAgg157
  z44 := Tryz.sizeOf157
  v44 := Tryz.zeroValue157
  t46 := Tryz.underlying159
  a46 := Tryz.isAgg159
  z46 := Tryz.sizeOf159
  v46 := Tryz.zeroValue159
  t53 := Tryz.underlying163
  a53 := Tryz.isAgg163
  z53 := Tryz.sizeOf163
  v53 := Tryz.zeroValue163
  t57 := Tryz.underlying167
  a57 := Tryz.isAgg167
  z57 := Tryz.sizeOf167
  v57 := Tryz.zeroValue167
  t63 := Tryz.underlying173
  a63 := Tryz.isAgg173
  z63 := Tryz.sizeOf173
  v63 := Tryz.zeroValue173
  t64 := Tryz.underlying50
  a64 := Tryz.isAgg50
  z64 := Tryz.sizeOf50
  v64 := Tryz.zeroValue50 }
/-- slices.Sort's two contracts at this dump, at the fence that asks nothing. -/
theorem Tryz.sorts33 (m : Nat) : AnyZ.SortsIn Tryz.prog Tryz.sorted33_ren Fence.wide m :=
  ⟨fun blk off cap ss W hH hblk hsz => callsIn_wide.2 (AnyM.slices_Sort_string Tryz.sort61 blk off cap ss W hH hblk hsz),
   fun p cap W => callsIn_wide.2 (AnyM.slices_Sort_string_none Tryz.sort61 p cap W)⟩
/-- **maps.Keys[map[string]*mailbag/tree.node,string,*mailbag/tree.node], at whatever map, the nil one too:** a function value over ONE NEW BLOCK, which holds the map. -/
theorem Tryz.maps_Keys_34 (mb : Option Nat) (W : World) : CallsIn Fence.wide 5 Tryz.prog 34 #[.map mb] W fun e w' => e = .returned (.func (.func 62) #[] #[.pointer (some ⟨W.heap.size, 0, none⟩)]) ∧ w' = W.alloc (.cells #[.map mb] 83) :=
  AnyZ.keys_in Tryz.keys34 Fence.wide 5 trivial rfl mb W
set_option maxHeartbeats 1000000 in
/-- **slices.Sorted[string] AT WHAT maps.Keys[map[string]*mailbag/tree.node,string,*mailbag/tree.node] HANDED BACK FOR A MAP THAT IS NOT nil** ('w': the world AHEAD of maps.Keys' call): A NEW SLICE THAT HOLDS THE MAP's KEYS, SORTED; nil just where it has none; nothing that lay before has turned. -/
theorem Tryz.slices_Sorted_keys_33_34 {H : Type} (b nn : Nat) (D0 : DataW H) (R : Value → Option (DataW H × List MemPlace)) (w : World) (hown : w.ownsMap Tryz.prog 9 R b nn D0) (hmax : Maps.size D0 ≤ maxLen) (hbytes : Maps.size D0 * 16 ≤ 140737488355328) :
    CallsIn Fence.wide 5 Tryz.prog 33 #[.func (.func 62) #[] #[.pointer (some ⟨w.heap.size, 0, none⟩)]] (w.alloc (.cells #[.map (some b)] 83)) fun e w' => ∃ (v : Value) (ss : List (List UInt8)), e = .returned v ∧ ss.Perm (strKeys D0) ∧
      w'.ownsRow (w.alloc (.cells #[.map (some b)] 83)).heap.size 9 1 v ss.length ((ss.mergeSort (fun x y => decide (x ≤ y))).map encStr) ∧ (v = .slice none 0 0 ↔ ss = []) ∧ Below (w.alloc (.cells #[.map (some b)] 83)).heap.size (w.alloc (.cells #[.map (some b)] 83)) w' := by
  have hbl := hown.lt
  have hseq : SeqGives Fence.wide 2 Tryz.prog 62 #[.pointer (some ⟨w.heap.size, 0, none⟩)] encStr (fun ss => ss.Perm (strKeys D0)) (Maps.size D0) (w.alloc (.cells #[.map (some b)] 83)) :=
    AnyZ.keys_gives (ρ := Tryz.keys34_ren) { Tryz.keys34 with } Fence.wide _ trivial rfl (by omega) w.heap.size b nn D0 _ (by simp) (by simp) (by
      obtain ⟨es, clock, hb, Ft, hs, hD⟩ := hown
      exact ⟨es, clock, (Below.heap_alloc _ _ b hbl).trans hb, Ft, hs, hD⟩)
  exact AnyZ.sorted_in Tryz.sorted33 Fence.wide 5 trivial trivial trivial trivial rfl (by omega) (Tryz.sorts33 _) (enters_of Tryz.func61 (by kernel_rfl) rfl) 62 #[.pointer (some ⟨w.heap.size, 0, none⟩)] trivial (enters_of Tryz.func62 (by kernel_rfl) rfl) _ _ hmax hbytes _ hseq
set_option maxHeartbeats 1000000 in
/-- **.. AND FOR THE nil MAP: nil.** -/
theorem Tryz.slices_Sorted_keys_nil_33_34 (w : World) :
    CallsIn Fence.wide 5 Tryz.prog 33 #[.func (.func 62) #[] #[.pointer (some ⟨w.heap.size, 0, none⟩)]] (w.alloc (.cells #[.map none] 83)) fun e w' => ∃ (v : Value) (ss : List (List UInt8)), e = .returned v ∧ ss = [] ∧
      w'.ownsRow (w.alloc (.cells #[.map none] 83)).heap.size 9 1 v ss.length ((ss.mergeSort (fun x y => decide (x ≤ y))).map encStr) ∧ (v = .slice none 0 0 ↔ ss = []) ∧ Below (w.alloc (.cells #[.map none] 83)).heap.size (w.alloc (.cells #[.map none] 83)) w' := by
  have hseq : SeqGives Fence.wide 2 Tryz.prog 62 #[.pointer (some ⟨w.heap.size, 0, none⟩)] encStr (fun ss : List (List UInt8) => ss = []) 0 (w.alloc (.cells #[.map none] 83)) :=
    AnyZ.keys_gives_nil (ρ := Tryz.keys34_ren) { Tryz.keys34 with } Fence.wide _ trivial rfl w.heap.size _ (by simp) (by simp)
  exact AnyZ.sorted_in Tryz.sorted33 Fence.wide 5 trivial trivial trivial trivial rfl (by omega) (Tryz.sorts33 _) (enters_of Tryz.func61 (by kernel_rfl) rfl) 62 #[.pointer (some ⟨w.heap.size, 0, none⟩)] trivial (enters_of Tryz.func62 (by kernel_rfl) rfl) _ 0 (Nat.zero_le _) (by omega) _ hseq
end Go.Proofs
namespace Go.Proofs.YtmjhflmkgmfjkaaGreatDoor
open Go.RowKit Go.Maps Go.Sort Go.Proofs.YtmjhflmkgmfjkaaGreatDoorW.PrintWords Go.Proofs.YtmjhflmkgmfjkaaGreatDoorW.PrintMore
/-- names in their order -/
def sortB (l : List ByteArray) : List ByteArray := ((l.map fun b => b.data.toList).mergeSort leB).map fun x => ⟨x.toArray⟩
def strOfV : Value → List UInt8
  | .string b => b.data.toList
  | _ => []
theorem MapB.owns {w : World} {m : Nat} {l : List (ByteArray × Value)} (h : MapB w m l) (hl : l.length ≤ maxLen) (hk : ∀ p ∈ l, p.1.size ≤ maxLen) :
    ∃ D : DataW Unit, w.ownsMap Tryz.prog 9 (fun _ => some (.nil, [])) m l.length D ∧ Maps.size D = l.length ∧ (strKeys D).Perm ((akeys l).map fun b => b.data.toList) := by
  obtain ⟨hn, es, clock, hb, he, hlt, hnd⟩ := h
  have hlen : es.toList.length = l.length := by simpa using congrArg List.length he
  have hkeys : es.toList.map (·.key) = (akeys l).map Value.string := by
    have := congrArg (List.map Prod.fst) he
    simpa [akeys, List.map_map, Function.comp_def] using this
  have hrd : ∀ x ∈ es.toList, ∃ b : ByteArray, x.key = .string b ∧ Go.WideElems.rd (H := Unit) Tryz.prog 9 (fun _ => some (.nil, [])) x = some (.string b.data.toList, .nil) := fun x hx => by
    have : x.key ∈ es.toList.map (·.key) := List.mem_map.2 ⟨x, hx, rfl⟩
    rw [hkeys] at this
    obtain ⟨b, hb, e⟩ := List.mem_map.1 this
    obtain ⟨p, hp, rfl⟩ := List.mem_map.1 hb
    refine ⟨p.1, e.symm, ?_⟩
    have hu : Tryz.prog.underlying 9 = some .string := Tryz.underlying9
    have hs := hk p hp
    simp [Go.WideElems.rd, keyOf, hu, mapKey, ← e, hs]
  have F : Go.WideElems.Fit (H := Unit) Tryz.prog 9 (fun _ => some (.nil, [])) es clock := ⟨by rw [← Array.length_toList, hlen]; exact hl, ⟨hlt, hnd, by
    rw [hkeys]
    exact List.pairwise_map.2 (hn.imp (fun hne he => hne (by injection he)))⟩, fun x hx => by obtain ⟨b, _, h⟩ := hrd x hx; exact ⟨_, h⟩⟩
  refine ⟨_, ⟨es, clock, hb, F, by rw [← Array.length_toList, hlen]; exact Nat.le_refl _, rfl⟩, ?_, ?_⟩
  · show (List.foldr DataW.insert [] _).length = _
    rw [length_sorted]
    simpa using hlen
  · show (List.map _ _).Perm _
    refine ((Go.WideShapes.sorted_perm _).map _).trans ?_
    rw [List.map_map]
    refine List.Perm.of_eq ?_
    have h2 : (akeys l).map (fun b => b.data.toList) = (es.toList.map (·.key)).map strOfV := by rw [hkeys, List.map_map]; rfl
    rw [h2, List.map_map]
    refine List.map_congr_left (fun x hx => ?_)
    obtain ⟨b, hb, h⟩ := hrd x hx
    simp only [Function.comp]
    rw [Go.WideElems.rg_of h, hb]
    rfl
theorem keys_calls (mb : Option Nat) (W : World) : Calls Tryz.prog 34 #[.map mb] W fun e w' => e = .returned (.func (.func 62) #[] #[.pointer (some ⟨W.heap.size, 0, none⟩)]) ∧ w' = W.alloc (.cells #[.map mb] 83) := callsIn_wide.1 (Tryz.maps_Keys_34 mb W)
theorem sorted_calls (w : World) (m : Nat) (l : List (ByteArray × Value)) (h : MapB w m l) (hl : l.length ≤ 100000) (hk : ∀ p ∈ l, p.1.size ≤ 100000) :
    Calls Tryz.prog 33 #[.func (.func 62) #[] #[.pointer (some ⟨w.heap.size, 0, none⟩)]] (w.alloc (.cells #[.map (some m)] 83)) fun e w' => ∃ A c, e = .returned (.slice A (sortB (akeys l)).length c) ∧ (sortB (akeys l)).length ≤ c ∧ Kd.C Kd.string w' A (sortB (akeys l)).length (sortB (akeys l)) ∧ (∀ ad, A = some ad → w.heap.size ≤ ad.block ∧ ∃ cs fr, w'.heap[ad.block]? = some (.cells cs 9 fr)) ∧ Below w.heap.size w w' := by
  obtain ⟨D, hD, hs, hp⟩ := h.owns (by unfold maxLen; omega) (fun p hp => by have := hk p hp; unfold maxLen; omega)
  have hc := callsIn_wide.1 (Tryz.slices_Sorted_keys_33_34 m l.length D _ w hD (by rw [hs]; unfold maxLen; omega) (by rw [hs]; omega))
  refine hc.mono ?_
  rintro e w' ⟨v, ss, rfl, hss, hrow, hnil, hb⟩
  have hE : (ss.mergeSort leB) = ((akeys l).map fun b => b.data.toList).mergeSort leB := mergeSort_of_perm (hss.trans hp)
  have hlen : (sortB (akeys l)).length = ss.length := by
    unfold sortB
    rw [List.length_map, ← hE, List.length_mergeSort]
  have hmap : ((ss.mergeSort leB).map encStr) = (sortB (akeys l)).map Value.string := by
    unfold sortB
    rw [List.map_map, ← hE]
    rfl
  have hB : Below w.heap.size w w' := ((Below.refl _ w).alloc (Nat.le_refl _) _).trans (hb.mono (by simp))
  rw [show (ss.mergeSort (fun x y => decide (x ≤ y))).map encStr = _ from hmap] at hrow
  obtain ⟨h1, ⟨rfl, h0⟩ | ⟨g, cap, cur, rfl, hg, hcell, hn, hcap, hsz, htk⟩⟩ := hrow
  · rw [← hlen] at h0
    have h00 : sortB (akeys l) = [] := List.eq_nil_of_length_eq_zero h0
    refine ⟨none, 0, ?_, ?_, ?_, fun ad e => (by cases e), hB⟩
    · rw [h0]
    · omega
    · rw [h00]; exact Kd.C_nil Kd.string w'
  · rw [← hlen] at hn htk ⊢
    refine ⟨_, cap, rfl, hn, Kd.C_of_reads (d := ByteArray.empty) ⟨rfl, by unfold maxLen at hcap; omega, fun _ => ⟨_, rfl, fun j hj => ?_⟩⟩, fun ad e => (by cases e; exact ⟨by simp at hg; show w.heap.size ≤ g; omega, cur, (0, 0), hcell⟩), hB⟩
    have hcj : cur.toList[j]? = some (Value.string ((sortB (akeys l)).getD j ByteArray.empty)) := by
      have h2 := congrArg (fun x => x[j]?) htk
      simp only [Nat.mul_one] at h2
      rw [List.getElem?_take, if_pos hj, List.getElem?_map] at h2
      rw [h2, List.getD_eq_getElem?_getD, List.getElem?_eq_getElem hj]
      rfl
    have hadd : (⟨g, 0, none⟩ : Addr).add j = ⟨g, j, none⟩ := by
      unfold Addr.add
      split
      · rename_i e; subst e; rfl
      · simp
    rw [hadd]
    simp only [World.cell?, hcell]
    simpa using hcj
theorem sorted_nil (w : World) : Calls Tryz.prog 33 #[.func (.func 62) #[] #[.pointer (some ⟨w.heap.size, 0, none⟩)]] (w.alloc (.cells #[.map none] 83)) fun e w' => e = .returned (.slice none 0 0) ∧ Below w.heap.size w w' := by
  refine (callsIn_wide.1 (Tryz.slices_Sorted_keys_nil_33_34 w)).mono ?_
  rintro e w' ⟨v, ss, rfl, hss, _, hnil, hb⟩
  exact ⟨by rw [hnil.2 hss], ((Below.refl _ w).alloc (Nat.le_refl _) _).trans (hb.mono (by simp))⟩
end Go.Proofs.YtmjhflmkgmfjkaaGreatDoor
namespace Go.Proofs.YtmjhflmkgmfjkaaGreatDoor
open Go.RowKit Go.Proofs.YtmjhflmkgmfjkaaGreatDoorW.PrintWords Go.Proofs.YtmjhflmkgmfjkaaGreatDoorW.PrintMore
open PTreeTwins (S58 S106 S35 z58 z106)
def sizeN (x : S58) : Int := if x.f1 = true then 0 else (x.f2.length : Int)
def kidsN (x : S58) : Int := if x.f1 = true then ((named x.f3).length : Int) else 0
def infoV (x : S58) : Value := .agg #[.bool x.f1, .int .i64 (sizeN x), .int .i64 (kidsN x)]
set_option maxRecDepth 100000 in
set_option maxHeartbeats 1000000 in
theorem info_calls (w : World) (b m : Nat) (x : S58) (f : Nat → Nat) (h : NodeAt w b m x f) : Calls Tryz.prog 99 #[.pointer (some ⟨b, 0, none⟩)] w fun e w' => e = .returned (infoV x) ∧ Below w.heap.size w w' := by
  cases hd : x.f1 with
  | true =>
    obtain ⟨hn, kv, hm, hp⟩ := h.1 hd
    have hk : kidsN x = (kv.length : Int) := by
      unfold kidsN
      rw [if_pos hd, hp.length_eq, List.length_map]
    have hs : sizeN x = 0 := by unfold sizeN; rw [if_pos hd]
    have hi : infoV x = .agg #[.bool true, .int .i64 0, .int .i64 (kv.length : Int)] := by unfold infoV; rw [hk, hs, hd]
    rw [hi]
    have Hn := Lib.hid hn
    obtain ⟨c0, c1, c2, c3⟩ := hn.cells
    have hlen := run_len_s (P := Tryz.prog) (w := (w.alloc (.cells #[.bool false, .int .i64 0, .int .i64 0] 121)).drew) Tryz.underlying83 (hm.of_block (Below.heap_alloc _ _ _ hm.lt)) 3
    have hlt := hn.lt
    clear hn hm hp h hk hs hi
    go_enter Tryz.func99, Tryz.ntmps99
    go_wp2
    go_region
    all_goals
      go_wp2
      have hB : Below w.heap.size w (w.alloc (.cells #[.bool true, .int .i64 0, .int .i64 (kv.length : Int)] 121)).drew := ((Below.refl _ w).alloc (Nat.le_refl _) _).drew
      have hz : (w.alloc (.cells #[.bool true, .int .i64 0, .int .i64 (kv.length : Int)] 121)).drew.heap[w.heap.size]? = some (.cells #[.bool true, .int .i64 0, .int .i64 (kv.length : Int)] 121 (0, 0)) := heap_alloc_new w _
      generalize (w.alloc (.cells #[.bool true, .int .i64 0, .int .i64 (kv.length : Int)] 121)).drew = W at *
      have z := fun o => (by simp [World.cell?, hz] : W.cell? ⟨w.heap.size, o, none⟩ = (#[.bool true, .int .i64 0, .int .i64 (kv.length : Int)] : Array Value)[o]?)
      have z0 := z 0
      have z1 := z 1
      have z2 := z 2
      simp at z0 z1 z2
      refine bodyPost_ret (v := .agg #[.bool true, .int .i64 0, .int .i64 (kv.length : Int)]) (by simp [results, Tryz.results99, go_sem, z0, z1, z2]) rfl ⟨rfl, hB⟩
  | false =>
    obtain ⟨v, hn, hv⟩ := h.2 hd
    obtain ⟨A, c, rfl, hc, _⟩ := Kd.R_reads hv
    have hk : kidsN x = 0 := by unfold kidsN; rw [if_neg (by rw [hd]; decide)]
    have hs : sizeN x = (x.f2.length : Int) := by unfold sizeN; rw [if_neg (by rw [hd]; decide)]
    have hi : infoV x = .agg #[.bool false, .int .i64 (x.f2.length : Int), .int .i64 0] := by unfold infoV; rw [hk, hs, hd]
    rw [hi]
    obtain ⟨c0, c1, c2, c3⟩ := hn.cells
    have hlen : ∀ W ty, (Builtin.len_ #[83] ty #[.map none]).run Tryz.prog W = .ok (.int .i64 0) W := fun W ty => Maps.len_nil Tryz.underlying83 ty
    have hlt := hn.lt
    clear hn h hk hs hi hv
    go_enter Tryz.func99, Tryz.ntmps99
    go_wp2
    go_region
    all_goals
      go_wp2
      have hB : Below w.heap.size w (w.alloc (.cells #[.bool false, .int .i64 (x.f2.length : Int), .int .i64 0] 121)).drew := ((Below.refl _ w).alloc (Nat.le_refl _) _).drew
      have hz : (w.alloc (.cells #[.bool false, .int .i64 (x.f2.length : Int), .int .i64 0] 121)).drew.heap[w.heap.size]? = some (.cells #[.bool false, .int .i64 (x.f2.length : Int), .int .i64 0] 121 (0, 0)) := heap_alloc_new w _
      generalize (w.alloc (.cells #[.bool false, .int .i64 (x.f2.length : Int), .int .i64 0] 121)).drew = W at *
      have z := fun o => (by simp [World.cell?, hz] : W.cell? ⟨w.heap.size, o, none⟩ = (#[.bool false, .int .i64 (x.f2.length : Int), .int .i64 0] : Array Value)[o]?)
      have z0 := z 0
      have z1 := z 1
      have z2 := z 2
      simp at z0 z1 z2
      refine bodyPost_ret (v := .agg #[.bool false, .int .i64 (x.f2.length : Int), .int .i64 0]) (by simp [results, Tryz.results99, go_sem, z0, z1, z2]) rfl ⟨rfl, hB⟩
end Go.Proofs.YtmjhflmkgmfjkaaGreatDoor
namespace Go.Proofs.YtmjhflmkgmfjkaaGreatDoor
open Go.RowKit Go.Maps Go.Sort Go.Proofs.YtmjhflmkgmfjkaaGreatDoorW.PrintWords Go.Proofs.YtmjhflmkgmfjkaaGreatDoorW.PrintMore
open PTreeTwins (S58 S106 S35 z58 z106)
def joinP (p n : ByteArray) : ByteArray := p ++ ⟨#[47]⟩ ++ n
/-- the paths below thing i, each with its thing (d: more than how deep it goes) -/
def walkN : Nat → List S58 → Nat → ByteArray → List (ByteArray × Nat)
  | 0, _, _, _ => []
  | d + 1, L, i, p => (sortB ((named (at_ L i).f3).map (·.f0))).flatMap fun n => match whose (at_ L i).f3 n with
    | some k => (joinP p n, k) :: walkN d L k (joinP p n)
    | none => []
theorem sortB_of_perm {l l' : List ByteArray} (h : l.Perm l') : sortB l = sortB l' := by
  unfold sortB
  rw [mergeSort_of_perm (h.map _)]
theorem sortB_perm (l : List ByteArray) : (sortB l).Perm l := by
  unfold sortB
  refine ((List.mergeSort_perm _ _).map _).trans ?_
  rw [List.map_map]
  refine List.Perm.of_eq ?_
  have : ((fun x : List UInt8 => (⟨x.toArray⟩ : ByteArray)) ∘ fun b : ByteArray => b.data.toList) = id := by
    funext b
    simp
  rw [this, List.map_id]
/-- what a round keeps: all that lay below n₀ but S, the cells from n₀ on, each block's type -/
structure Kq (n₀ : Nat) (S : Nat → Prop) (W W' : World) : Prop where
  os : W'.os = W.os
  tape : W'.tape = W.tape
  output : W'.output = W.output
  size : W.heap.size ≤ W'.heap.size
  low : ∀ k, k < n₀ → ¬ S k → W'.heap[k]? = W.heap[k]?
  cells : ∀ (k : Nat) (cs : Array Value) (ty : TypeId) (fr : Nat × Nat), n₀ ≤ k → W.heap[k]? = some (Obj.cells cs ty fr) → W'.heap[k]? = some (Obj.cells cs ty fr)
  types : ∀ (k : Nat) (cs : Array Value) (ty : TypeId) (fr : Nat × Nat), W.heap[k]? = some (Obj.cells cs ty fr) → ∃ cs', W'.heap[k]? = some (Obj.cells cs' ty fr)
theorem Kq.trans {n₀ : Nat} {S : Nat → Prop} {A B C : World} (h : Kq n₀ S A B) (k : Kq n₀ S B C) : Kq n₀ S A C :=
  ⟨k.os.trans h.os, k.tape.trans h.tape, k.output.trans h.output, Nat.le_trans h.size k.size, fun i hi hn => (k.low i hi hn).trans (h.low i hi hn), fun i cs ty fr hi hc => k.cells i cs ty fr hi (h.cells i cs ty fr hi hc),
    fun i cs ty fr hc => by obtain ⟨cs', h'⟩ := h.types i cs ty fr hc; exact k.types i cs' ty fr h'⟩
theorem Kq.of_below {n₀ : Nat} {S : Nat → Prop} {W W' : World} (h : Below W.heap.size W W') (hn : n₀ ≤ W.heap.size) : Kq n₀ S W W' :=
  ⟨h.os, h.tape, h.output, h.size, fun k hk _ => h.block k (by omega), fun k cs ty fr _ hc => (h.block k (Array.getElem?_eq_some_iff.1 hc).1).trans hc, fun k cs ty fr hc => ⟨cs, (h.block k (Array.getElem?_eq_some_iff.1 hc).1).trans hc⟩⟩
theorem Kq.putObj {n₀ : Nat} {S : Nat → Prop} (W : World) (l : Nat) (o o' : Obj) (hl : n₀ ≤ l) (hW : W.heap[l]? = some o) (ho : o.isCells = false) : Kq n₀ S W (W.putObj l o') := by
  have hne : ∀ k cs ty fr, W.heap[k]? = some (.cells cs ty fr) → k ≠ l := fun k cs ty fr hc e => by subst e; rw [hW] at hc; cases hc; cases ho
  exact ⟨rfl, rfl, rfl, by simp, fun k hk _ => World.putObj_heap_other (by omega), fun k cs ty fr _ hc => (World.putObj_heap_other (hne k cs ty fr hc)).trans hc, fun k cs ty fr hc => ⟨cs, (World.putObj_heap_other (hne k cs ty fr hc)).trans hc⟩⟩
theorem Kq.setCell {n₀ : Nat} {S : Nat → Prop} (W : World) (b : Nat) (hb : b < n₀) (hS : S b) (v : Value) : Kq n₀ S W (W.setCell ⟨b, 0, none⟩ v) := by
  have hne : ∀ k, k ≠ b → (W.setCell ⟨b, 0, none⟩ v).heap[k]? = W.heap[k]? := fun k hk => Below.heap_setCell W _ v k hk
  refine ⟨rfl, rfl, rfl, by simp, fun k hk hn => hne k (fun e => hn (e ▸ hS)), fun k cs ty fr hk hc => (hne k (by omega)).trans hc, fun k cs ty fr hc => ?_⟩
  by_cases hk : k = b
  · subst hk
    simp only [World.setCell]
    rw [Array.getElem?_modify, if_pos rfl, hc]
    exact ⟨_, rfl⟩
  · exact ⟨cs, (hne k hk).trans hc⟩
/-- the caller's own cells -/
def SB (S : Nat → Prop) (W : World) : Prop := ∀ k, S k → ∃ cs ty fr, W.heap[k]? = some (.cells cs ty fr) ∧ ty ≠ 5
theorem SB.kq {n₀ : Nat} {S : Nat → Prop} {W W' : World} (h : SB S W) (hk : Kq n₀ S W W') : SB S W' := fun k hs => by
  obtain ⟨cs, ty, fr, hc, ht⟩ := h k hs
  obtain ⟨cs', h'⟩ := hk.types k cs ty fr hc
  exact ⟨cs', ty, fr, h', ht⟩
/-- thing i and what is below it lie below n₀, outside S -/
structure TreeOn (n₀ : Nat) (S : Nat → Prop) (W : World) (L : List S58) (way : Nat → List ByteArray) (i : Nat) (f g : Nat → Nat) : Prop where
  own : SB S W
  node : ∀ j, Sub L way i j → NodeAt W (f j) (g j) (at_ L j) f
  flo : ∀ j, Sub L way i j → f j < n₀ ∧ ¬ S (f j)
  glo : ∀ j, Sub L way i j → (at_ L j).f1 = true → g j < n₀ ∧ ¬ S (g j)
theorem NodeAt.kq {n₀ : Nat} {S : Nat → Prop} {W W' : World} {b m : Nat} {x : S58} {f : Nat → Nat} (h : NodeAt W b m x f) (hk : Kq n₀ S W W') (hS : SB S W) (hb : b < n₀ ∧ ¬ S b) (hm : x.f1 = true → m < n₀ ∧ ¬ S m) : NodeAt W' b m x f := by
  have hK : Keeps (fun k => S k ∨ (n₀ ≤ k ∧ ∀ cs ty fr, W.heap[k]? ≠ some (.cells cs ty fr))) W W' := ⟨hk.os, hk.tape, hk.output, hk.size, fun k hlt hn => by
    by_cases h1 : k < n₀
    · exact hk.low k h1 (fun hs => hn (.inl hs))
    · by_cases h2 : ∃ cs ty fr, W.heap[k]? = some (.cells cs ty fr)
      · obtain ⟨cs, ty, fr, hc⟩ := h2
        rw [hc, hk.cells k cs ty fr (by omega) hc]
      · exact absurd (.inr ⟨by omega, fun cs ty fr hc => h2 ⟨cs, ty, fr, hc⟩⟩) hn⟩
  refine h.keeps' hK (fun k hs _ cs fr hc => ?_) (fun hs => ?_) (fun hd hs => ?_)
  · rcases hs with hs | ⟨_, hs⟩
    · obtain ⟨cs', ty, fr', h', ht⟩ := hS k hs
      rw [h'] at hc; cases hc; exact ht rfl
    · exact hs _ _ _ hc
  · rcases hs with hs | ⟨hs, _⟩
    · exact hb.2 hs
    · omega
  · rcases hs with hs | ⟨hs, _⟩
    · exact (hm hd).2 hs
    · have := (hm hd).1; omega
theorem TreeOn.kq {n₀ : Nat} {S : Nat → Prop} {W W' : World} {L : List S58} {way : Nat → List ByteArray} {i : Nat} {f g : Nat → Nat} (h : TreeOn n₀ S W L way i f g) (hk : Kq n₀ S W W') : TreeOn n₀ S W' L way i f g :=
  ⟨h.own.kq hk, fun j hj => (h.node j hj).kq hk h.own (h.flo j hj) (h.glo j hj), h.flo, h.glo⟩
theorem TreeOn.kid {n₀ : Nat} {S : Nat → Prop} {W : World} {L : List S58} {way : Nat → List ByteArray} {i : Nat} {f g : Nat → Nat} (hG : Good L way) (hi : Live L i) (h : TreeOn n₀ S W L way i f g) {e : S106} (he : e ∈ named (at_ L i).f3) : TreeOn n₀ S W L way (eix e) f g := by
  have hs : ∀ x, Sub L way (eix e) x → Sub L way i x := fun x hx => Sub.trans (Sub.kid hG hi (Sub.refl hi) he) hx
  exact ⟨h.own, fun j hj => h.node j (hs j hj), fun j hj => h.flo j (hs j hj), fun j hj => h.glo j (hs j hj)⟩
/-- a row of strings, its block as it was -/
theorem C_string_block {w w' : World} {ad : Addr} {n : Nat} {xs : List ByteArray} (h : Kd.C Kd.string w (some ad) n xs) (hb : w'.heap[ad.block]? = w.heap[ad.block]?) : Kd.C Kd.string w' (some ad) n xs := by
  refine ⟨h.1, h.2.1, fun hn => ?_⟩
  obtain ⟨ad', e, hc⟩ := h.2.2 hn
  cases e
  refine ⟨ad, rfl, fun j p hj => ?_⟩
  obtain ⟨cs, h1, h2, h3⟩ := hc j p hj
  refine ⟨cs, h1, h2, fun i u hu => ?_⟩
  have := h3 i u hu
  have hbk : ∀ a k, (Addr.add a k).block = a.block := fun a k => by unfold Addr.add; split <;> rfl
  rw [World.cell?_of_block (w := w) (by simp only [hbk]; exact hb)]
  exact this
end Go.Proofs.YtmjhflmkgmfjkaaGreatDoor
namespace Go.Proofs.YtmjhflmkgmfjkaaGreatDoor
open Go.RowKit Go.Shelf Go.Maps Go.Sort Go.Proofs.YtmjhflmkgmfjkaaGreatDoorW.PrintWords Go.Proofs.YtmjhflmkgmfjkaaGreatDoorW.PrintMore
open PTreeTwins (S58 S106 S35 z58 z106)
attribute [local go_sem] Oper.semAt_some
def encP (L : List S58) (x : ByteArray × Nat) : Array Value := #[.string x.1, infoV (at_ L x.2)]
/-- what a walk leaves -/
def WalkPost (n₀ : Nat) (S : Nat → Prop) (J Jx : List (ByteArray × Nat) → World → Prop) (pre rows : List (ByteArray × Nat)) (W : World) (e : Ending) (W' : World) : Prop :=
  (e = .returned (.bool true) ∧ J (pre ++ rows) W' ∧ Kq n₀ S W W') ∨ (e = .returned (.bool false) ∧ ∃ q, q <+: rows ∧ Jx (pre ++ q) W')
set_option maxRecDepth 100000 in
set_option maxHeartbeats 2000000 in
theorem walk_file (L : List S58) (way : Nat → List ByteArray) (l n₀ : Nat) (S : Nat → Prop) (J Jx : List (ByteArray × Nat) → World → Prop) (hJ : ∀ pre W W', J pre W → Below W.heap.size W W' → J pre W') (n b : Nat) (p : ByteArray) (pre : List (ByteArray × Nat)) (W : World) (x : S58) (hF : FileAt W b x) (hn : n₀ ≤ W.heap.size) (h0 : J pre W) :
    CallsIn Fence.wide n Tryz.prog 87 #[.pointer (some ⟨b, 0, none⟩), .string p, .func (.yield l) #[] #[]] W (WalkPost n₀ S J Jx pre [] W) := by
  obtain ⟨v, hnb, hv⟩ := hF
  obtain ⟨c0, c1, c2, c3⟩ := hnb.cells
  have hlt := hnb.lt
  have hdd : ∀ k : Nat, (Fence.wide.depth.isSome = true → 1 ≤ k) := fun k h => by cases h
  have fw34 : Fence.wide.fn 34 := trivial
  have fw33 : Fence.wide.fn 33 := trivial
  refine callsIn_of_wp Tryz.func87 rfl trivial ?_ rfl
  simp only [Tryz.ntmps87, List.size_toArray, List.length_cons, List.length_nil, Nat.reduceAdd, Nat.reduceSub, Array.replicate_succ, Array.replicate_zero, List.push_toArray, List.append_toArray, List.nil_append, List.cons_append]
  gi_wp2_with (first
    | ((try refine ⟨hdd _, ?_⟩); gi_at_call 34; refine (callsIn_wide.2 (keys_calls _ _)).mono ?_; rintro e w' ⟨rfl, rfl⟩)
    | ((try refine ⟨hdd _, ?_⟩); gi_at_call 33; refine (callsIn_wide.2 (sorted_nil _)).mono ?_; rintro e w1 ⟨rfl, hb1⟩))
  gi_loopw [18] (fun i wr => i = .int .i64 0 ∧ wr = w1) (fun _ _ => 0)
  case atStart => exact ⟨rfl, rfl⟩
  case round =>
    obtain ⟨rfl, rfl⟩ := hrel
    gi_wp2
    go_ret
    exact .inl ⟨rfl, by simpa using hJ _ _ _ h0 hb1, Kq.of_below hb1 hn⟩
/-- the rows of the first names -/
def rowsTo (d : Nat) (L : List S58) (s : List S106) (p : ByteArray) (ns : List ByteArray) : List (ByteArray × Nat) := ns.flatMap fun n => match whose s n with
  | some k => (joinP p n, k) :: walkN d L k (joinP p n)
  | none => []
theorem rowsTo_snoc (d : Nat) (L : List S58) (s : List S106) (p : ByteArray) (ns : List ByteArray) (n : ByteArray) {k : Nat} (h : whose s n = some k) : rowsTo d L s p (ns ++ [n]) = rowsTo d L s p ns ++ (joinP p n, k) :: walkN d L k (joinP p n) := by
  unfold rowsTo
  rw [List.flatMap_append]
  simp [h]
/-- what the loop of walk holds -/
structure WalkAt (n₀ : Nat) (S : Nat → Prop) (J : List (ByteArray × Nat) → World → Prop) (pre : List (ByteArray × Nat)) (d : Nat) (L : List S58) (way : Nat → List ByteArray) (i : Nat) (f g : Nat → Nat) (p : ByteArray) (A : Option Addr) (ns : List ByteArray) (W : World) (k : Nat) (wr : World) : Prop where
  inv : J (pre ++ rowsTo d L (at_ L i).f3 p (ns.take k)) wr
  kq : Kq n₀ S W wr
  on : TreeOn n₀ S wr L way i f g
  row : Kd.C Kd.string wr A ns.length ns
  blk : ∀ ad, A = some ad → n₀ ≤ ad.block ∧ ∃ cs fr, wr.heap[ad.block]? = some (.cells cs 9 fr)
set_option maxRecDepth 100000 in
set_option maxHeartbeats 4000000 in
theorem walk_dir (L : List S58) (way : Nat → List ByteArray) (hG : Good L way) (l n₀ N : Nat) (S : Nat → Prop) (J Jx : List (ByteArray × Nat) → World → Prop) (hJ : ∀ pre W W', J pre W → Below W.heap.size W W' → J pre W')
    (hY : ∀ m pre x W, J pre W → pre.length < N → YieldAt Fence.wide m Tryz.prog l (encP L x) W fun e W' => (e = .returned (.bool true) ∧ J (pre ++ [x]) W' ∧ Kq n₀ S W W') ∨ (e = .returned (.bool false) ∧ Jx (pre ++ [x]) W'))
    (n d i : Nat) (p : ByteArray) (pre : List (ByteArray × Nat)) (W : World) (f g : Nat → Nat) (hi : Live L i) (hd : (at_ L i).f1 = true) (hT : TreeOn n₀ S W L way i f g) (hn : n₀ ≤ W.heap.size) (h0 : J pre W) (hlen : pre.length + (walkN (d + 1) L i p).length ≤ N)
    (hs1 : (named (at_ L i).f3).length ≤ 100000) (hs2 : ∀ e ∈ named (at_ L i).f3, e.f0.size ≤ 100000) (hpz : p.size ≤ 100001 * (way i).length) (hwz : (way i).length ≤ 100000)
    (ih : ∀ e ∈ named (at_ L i).f3, ∀ (m : Nat) (q : ByteArray) (pre : List (ByteArray × Nat)) (W : World), q.size ≤ 100001 * (way (eix e)).length → TreeOn n₀ S W L way (eix e) f g → n₀ ≤ W.heap.size → J pre W → pre.length + (walkN d L (eix e) q).length ≤ N →
      CallsIn Fence.wide m Tryz.prog 87 #[.pointer (some ⟨f (eix e), 0, none⟩), .string q, .func (.yield l) #[] #[]] W (WalkPost n₀ S J Jx pre (walkN d L (eix e) q) W)) :
    CallsIn Fence.wide n Tryz.prog 87 #[.pointer (some ⟨f i, 0, none⟩), .string p, .func (.yield l) #[] #[]] W (WalkPost n₀ S J Jx pre (walkN (d + 1) L i p) W) := by
  obtain ⟨hnb, kv, hm, hp⟩ := (hT.node i (Sub.refl hi)).1 hd
  obtain ⟨c0, c1, c2, c3⟩ := hnb.cells
  have hlt := hnb.lt
  have hdd : ∀ k : Nat, (Fence.wide.depth.isSome = true → 1 ≤ k) := fun k h => by cases h
  have fw34 : Fence.wide.fn 34 := trivial
  have fw33 : Fence.wide.fn 33 := trivial
  have fw99 : Fence.wide.fn 99 := trivial
  have fw87 : Fence.wide.fn 87 := trivial
  obtain ⟨ns, hns⟩ : ∃ ns, ns = sortB ((named (at_ L i).f3).map (·.f0)) := ⟨_, rfl⟩
  have hak : sortB (akeys kv) = ns := by
    rw [hns]
    refine sortB_of_perm ?_
    have := hp.map (·.1)
    simpa [akeys, List.map_map, Function.comp_def, entVal] using this
  have hsort := sorted_calls W (g i) kv hm (by rw [hp.length_eq]; simpa using hs1) (fun q hq => by
    obtain ⟨e, he, rfl⟩ := List.mem_map.1 (hp.mem_iff.1 hq)
    exact hs2 e he)
  rw [hak] at hsort
  have hrows : walkN (d + 1) L i p = rowsTo d L (at_ L i).f3 p ns := by rw [hns]; rfl
  rw [hrows] at hlen ⊢
  have hnsm : ∀ nm ∈ ns, ∃ e ∈ named (at_ L i).f3, e.f0 = nm := fun nm h => by
    rw [hns] at h
    have := (sortB_perm _).mem_iff.1 h
    simpa using this
  have HR := Lib.hid hrows
  have HNS := Lib.hid hns
  clear hrows hns hak
  refine callsIn_of_wp Tryz.func87 rfl trivial ?_ rfl
  simp only [Tryz.ntmps87, List.size_toArray, List.length_cons, List.length_nil, Nat.reduceAdd, Nat.reduceSub, Array.replicate_succ, Array.replicate_zero, List.push_toArray, List.append_toArray, List.nil_append, List.cons_append]
  gi_wp2_with (first
    | ((try refine ⟨hdd _, ?_⟩); gi_at_call 34; refine (callsIn_wide.2 (keys_calls _ _)).mono ?_; rintro e w' ⟨rfl, rfl⟩)
    | ((try refine ⟨hdd _, ?_⟩); gi_at_call 33; refine (callsIn_wide.2 hsort).mono ?_; rintro e w1 ⟨A, c, rfl, hc, hC, hblk, hb1⟩))
  have H0 : WalkAt n₀ S J pre d L way i f g p A ns W 0 w1 := ⟨by simpa [rowsTo] using hJ _ _ _ h0 hb1, Kq.of_below hb1 hn, hT.kq (Kq.of_below hb1 hn), hC, fun ad e => ⟨by have := (hblk ad e).1; omega, (hblk ad e).2⟩⟩
  have hmx := Kd.C_max hC
  clear hsort hC hblk hb1
  gi_loopw [18] (fun i' wr => ∃ k : Nat, k ≤ ns.length ∧ i' = .int .i64 k ∧ WalkAt n₀ S J pre d L way i f g p A ns W k wr) (fun i' _ => ns.length - (intOf i').toNat)
  case atStart => exact ⟨0, Nat.zero_le _, rfl, H0⟩
  case round =>
    clear H0
    obtain ⟨k, hk, rfl, H⟩ := hrel
    by_cases hlt : k < ns.length
    · obtain ⟨ad, rfl, hcell⟩ := Kd.at_string H.row (k : Int) (by omega) (by omega)
      rw [Int.toNat_natCast] at hcell
      have hrd : rdOf ByteArray.empty ns k = ns[k] := by simp [rdOf, hlt]
      rw [hrd] at hcell
      obtain ⟨e, he, hee⟩ := hnsm ns[k] (List.getElem_mem hlt)
      rw [← hee] at hcell
      obtain ⟨hnb', kv', hm', hp'⟩ := (H.on.node i (Sub.refl hi)).1 hd
      obtain ⟨x0, x1, x2, x3⟩ := hnb'.cells
      have hwh := whose_named (hG.names i hi) he
      have hget : ∀ W : World, W.heap[g i]? = wr.heap[g i]? → (Instr.lookup 83 (.map (some (g i))) (.string e.f0) false).run Tryz.prog W = .ok (.pointer (some ⟨f (eix e), 0, none⟩)) W := fun W hW => by
        have := (KidsAt.of_block ⟨kv', hm', hp'⟩ hW).get e.f0
        rw [hwh] at this
        exact this
      have hget1 := hget wr.drew rfl
      have HT := Lib.hid H
      have hez := hs2 e he
      have hz1 : (⟨#[47]⟩ : ByteArray).size = 1 := rfl
      have hqz : (p ++ ⟨#[47]⟩ ++ e.f0).size ≤ 100001 * (way (eix e)).length := by
        rw [ByteArray.size_append, ByteArray.size_append, (hG.kid i hi e he).2.2, List.length_append, List.length_singleton]
        omega
      have a1 : ∀ W : World, (Op.stringOp .add p ⟨#[47]⟩).run Tryz.prog W = .ok (.string (p ++ ⟨#[47]⟩)) W := fun W => run_string_add_sum W _ _ (by rw [hz1]; omega)
      have a2 : ∀ W : World, (Op.stringOp .add (p ++ ⟨#[47]⟩) e.f0).run Tryz.prog W = .ok (.string (p ++ ⟨#[47]⟩ ++ e.f0)) W := fun W => run_string_add_sum W _ _ (by rw [ByteArray.size_append, hz1]; omega)
      have hle := (hG.kid i hi e he).2.1
      have hinf := info_calls wr.drew (f (eix e)) (g (eix e)) (at_ L (eix e)) f ((H.on.node _ (Sub.kid hG hi (Sub.refl hi) he)).below (Below.refl _ wr).drew)
      have hrowk : rowsTo d L (at_ L i).f3 p (ns.take (k + 1)) = rowsTo d L (at_ L i).f3 p (ns.take k) ++ (p ++ ⟨#[47]⟩ ++ e.f0, eix e) :: walkN d L (eix e) (p ++ ⟨#[47]⟩ ++ e.f0) := by
        rw [List.take_succ_eq_append_getElem hlt, ← hee]
        exact rowsTo_snoc d L _ p _ e.f0 hwh
      have hpre : rowsTo d L (at_ L i).f3 p (ns.take (k + 1)) <+: rowsTo d L (at_ L i).f3 p ns := by
        conv => rhs; rw [← List.take_append_drop (k + 1) ns]
        unfold rowsTo
        rw [List.flatMap_append]
        exact List.prefix_append _ _
      have hln := hpre.length_le
      rw [hrowk] at hln hpre
      simp only [List.length_append, List.length_cons] at hln
      have hY2 : ∀ w2, Below wr.drew.heap.size wr.drew w2 → YieldAt Fence.wide (n - 1) Tryz.prog l #[.string (p ++ ⟨#[47]⟩ ++ e.f0), infoV (at_ L (eix e))] w2 fun e' W' => (e' = .returned (.bool true) ∧ J (pre ++ rowsTo d L (at_ L i).f3 p (ns.take k) ++ [(p ++ ⟨#[47]⟩ ++ e.f0, eix e)]) W' ∧ Kq n₀ S wr W') ∨ (e' = .returned (.bool false) ∧ Jx (pre ++ rowsTo d L (at_ L i).f3 p (ns.take k) ++ [(p ++ ⟨#[47]⟩ ++ e.f0, eix e)]) W') := fun w2 hb2 => by
        have hb : Below wr.heap.size wr w2 := (Below.refl _ wr).drew.trans hb2
        have hsz := HT.out.kq.size
        have hy0 := hY (n - 1) (pre ++ rowsTo d L (at_ L i).f3 p (ns.take k)) (p ++ ⟨#[47]⟩ ++ e.f0, eix e) w2 (hJ _ _ _ HT.out.inv hb) (by simp; omega)
        unfold encP at hy0
        refine YieldAt.mono hy0 (fun e' W' h => ?_)
        rcases h with ⟨h1, h2, h3⟩ | h
        · exact .inl ⟨h1, h2, (Kq.of_below hb (by omega)).trans h3⟩
        · exact .inr h
      have ih3 : ∀ w3, J (pre ++ rowsTo d L (at_ L i).f3 p (ns.take k) ++ [(p ++ ⟨#[47]⟩ ++ e.f0, eix e)]) w3 → Kq n₀ S wr w3 → CallsIn Fence.wide (n - 1) Tryz.prog 87 #[.pointer (some ⟨f (eix e), 0, none⟩), .string (p ++ ⟨#[47]⟩ ++ e.f0), .func (.yield l) #[] #[]] w3 (WalkPost n₀ S J Jx (pre ++ rowsTo d L (at_ L i).f3 p (ns.take k) ++ [(p ++ ⟨#[47]⟩ ++ e.f0, eix e)]) (walkN d L (eix e) (p ++ ⟨#[47]⟩ ++ e.f0)) w3) := fun w3 h1 h2 =>
        ih e he (n - 1) _ _ w3 hqz ((HT.out.on.kq h2).kid hG hi he) (by have := HT.out.kq.size; have := h2.size; omega) h1 (by simp; omega)
      clear H hget hwh hm' hp' hnb' hee
      gi_wp2
      gi_region
      all_goals
        gi_wp2_with (first
          | ((try refine ⟨hdd _, ?_⟩); gi_at_call 99; refine (callsIn_wide.2 hinf).mono ?_; rintro e2 w2 ⟨rfl, hb2⟩; obtain ⟨fn, tmps, assign, body, hy, hR⟩ := hY2 w2 hb2)
          | ((try refine ⟨hdd _, ?_⟩); refine hR.mono ?_; clear hR; rintro e3 w3 (⟨rfl, hJ3, hk3⟩ | ⟨rfl, hx3⟩))
          | ((try refine ⟨hdd _, ?_⟩); gi_at_call 87; refine (ih3 w3 hJ3 hk3).mono ?_; rintro e4 w4 (⟨rfl, hJ4, hk4⟩ | ⟨rfl, q, hq, hx4⟩)))
        · have hK : Kq n₀ S wr w4 := hk3.trans hk4
          have hX : J (pre ++ rowsTo d L (at_ L i).f3 p (ns.take (k + 1))) w4 := by
            rw [hrowk]
            simpa [List.append_assoc] using hJ4
          exact ⟨⟨k + 1, by omega, by simp, ⟨hX, HT.out.kq.trans hK, HT.out.on.kq hK, C_string_block HT.out.row (by
            obtain ⟨h1, cs, fr, h2⟩ := HT.out.blk ad rfl
            rw [h2, hK.cells _ _ _ _ h1 h2]), fun ad' e' => by
            cases e'
            obtain ⟨h1, cs, fr, h2⟩ := HT.out.blk ad rfl
            exact ⟨h1, cs, fr, hK.cells _ _ _ _ h1 h2⟩⟩⟩, by simp [intOf]; omega⟩
        · go_ret
          refine .inr ⟨rfl, rowsTo d L (at_ L i).f3 p (ns.take k) ++ (p ++ ⟨#[47]⟩ ++ e.f0, eix e) :: q, ?_, by simpa [List.append_assoc] using hx4⟩
          obtain ⟨r1, hr1⟩ := hq
          obtain ⟨r2, hr2⟩ := hpre
          exact ⟨r1 ++ r2, by rw [← hr2, ← hr1]; simp [List.append_assoc]⟩
        · go_ret
          refine .inr ⟨rfl, rowsTo d L (at_ L i).f3 p (ns.take k) ++ [(p ++ ⟨#[47]⟩ ++ e.f0, eix e)], ?_, by simpa [List.append_assoc] using hx3⟩
          obtain ⟨r2, hr2⟩ := hpre
          exact ⟨walkN d L (eix e) (p ++ ⟨#[47]⟩ ++ e.f0) ++ r2, by rw [← hr2]; simp [List.append_assoc]⟩
    · have hkl : k = ns.length := by omega
      subst hkl
      have h1 := H.inv
      rw [List.take_length] at h1
      have HK := Lib.hid H.kq
      clear H
      gi_wp2
      go_ret
      exact .inl ⟨rfl, h1, HK.out⟩
theorem walk_calls (L : List S58) (way : Nat → List ByteArray) (hG : Good L way) (l n₀ N : Nat) (S : Nat → Prop) (J Jx : List (ByteArray × Nat) → World → Prop) (hJ : ∀ pre W W', J pre W → Below W.heap.size W W' → J pre W')
    (hY : ∀ m pre x W, J pre W → pre.length < N → YieldAt Fence.wide m Tryz.prog l (encP L x) W fun e W' => (e = .returned (.bool true) ∧ J (pre ++ [x]) W' ∧ Kq n₀ S W W') ∨ (e = .returned (.bool false) ∧ Jx (pre ++ [x]) W'))
    (hs1 : ∀ i, Live L i → (named (at_ L i).f3).length ≤ 100000) (hs2 : ∀ i, Live L i → ∀ e ∈ named (at_ L i).f3, e.f0.size ≤ 100000) (hwz : ∀ i, Live L i → (way i).length ≤ 100000) (f g : Nat → Nat) (d : Nat) :
    ∀ (i n : Nat) (p : ByteArray) (pre : List (ByteArray × Nat)) (W : World), Live L i → (∀ j, Sub L way i j → (way j).length < (way i).length + d) → p.size ≤ 100001 * (way i).length → TreeOn n₀ S W L way i f g → n₀ ≤ W.heap.size → J pre W → pre.length + (walkN d L i p).length ≤ N →
    CallsIn Fence.wide n Tryz.prog 87 #[.pointer (some ⟨f i, 0, none⟩), .string p, .func (.yield l) #[] #[]] W (WalkPost n₀ S J Jx pre (walkN d L i p) W) := by
  induction d with
  | zero => intro i n p pre W hi hd; exact absurd (hd i (Sub.refl hi)) (by omega)
  | succ d ih =>
    intro i n p pre W hi hd hp hT hn h0 hlen
    cases hdir : (at_ L i).f1 with
    | false =>
      have hw : walkN (d + 1) L i p = [] := by
        unfold walkN
        rw [hG.file i hi hdir]
        have : (named ([] : List S106)).map (fun x => x.f0) = [] := rfl
        rw [this]
        have : sortB [] = [] := by unfold sortB; simp
        rw [this]; rfl
      rw [hw]
      exact walk_file L way l n₀ S J Jx hJ n (f i) p pre W _ ((hT.node i (Sub.refl hi)).2 hdir) hn h0
    | true =>
      refine walk_dir L way hG l n₀ N S J Jx hJ hY n d i p pre W f g hi hdir hT hn h0 hlen (hs1 i hi) (hs2 i hi) hp (hwz i hi) (fun e he m q pre' W' hq hT' hn' h0' hlen' => ?_)
      obtain ⟨_, h1, h2⟩ := hG.kid i hi e he
      have hsub : ∀ j, Sub L way (eix e) j → Sub L way i j := fun j hj => Sub.trans (Sub.kid hG hi (Sub.refl hi) he) hj
      exact ih (eix e) m q pre' W' h1 (fun j hj => by have := hd j (hsub j hj); rw [h2]; simp; omega) hq hT' hn' h0' hlen'
end Go.Proofs.YtmjhflmkgmfjkaaGreatDoor
namespace Go.Proofs.YtmjhflmkgmfjkaaGreatDoor
open Go.RowKit Go.Shelf Go.Maps Go.Sort Go.Proofs.YtmjhflmkgmfjkaaGreatDoorW.PrintWords Go.Proofs.YtmjhflmkgmfjkaaGreatDoorW.PrintMore
open PTreeTwins (S58 S106 S35 z58 z106)
attribute [local go_sem] Oper.semAt_some
set_option maxRecDepth 100000 in
set_option maxHeartbeats 1000000 in
theorem treeWalk_calls (w : World) (t : Nat) (f g : Nat → Nat) (way : Nat → List ByteArray) (r : RS) (hI : ImplAt w t f g r) (hG : Good r.L way) (hl : ∀ i, (at_ r.L i).f2.length ≤ 8458240) :
    Calls Tryz.prog 58 #[.pointer (some ⟨t, 0, none⟩)] w fun e w' => ∃ B f' g', e = .returned (.func (.func 86) #[] #[.pointer (some ⟨B, 0, none⟩)]) ∧ Below w.heap.size w w' ∧ CopyOn w' w.heap.size r.L (Live r.L) f' g' ∧ Boxed w' B 52 (.pointer (some ⟨f' 0, 0, none⟩)) ∧ w.heap.size ≤ B := by
  obtain ⟨c0, c1, c2⟩ := hI.tree.cells
  obtain ⟨d, hd⟩ := way_max r.L way
  have hcall : Calls Tryz.prog 26 #[.pointer (some ⟨f 0, 0, none⟩)] w (TwinPost w r.L way 0) :=
    twin_calls r.L way hG hl d 0 w f g hG.root.1 (fun j hj => by have := hd j hj.1; omega) (fun j hj => hI.node j hj.1)
  go_enter Tryz.func58, Tryz.ntmps58
  go_wp2_with (first | (go_at_call 26; refine hcall.mono ?_; rintro e w1 ⟨f1, g1, rfl, hb1, hc⟩))
  go_ret
  refine ⟨w1.heap.size, f1, g1, rfl, hb1.alloc hb1.size _, (hc.below ((Below.refl _ w1).alloc (Nat.le_refl _) _)).part (fun j hj => (root_sub hG).2 hj), Boxed.new _ _ _, hb1.size⟩
set_option maxRecDepth 100000 in
set_option maxHeartbeats 1000000 in
theorem walk1_in (L : List S58) (way : Nat → List ByteArray) (hG : Good L way) (l n₀ N n B : Nat) (S : Nat → Prop) (J Jx : List (ByteArray × Nat) → World → Prop) (hJ : ∀ pre W W', J pre W → Below W.heap.size W W' → J pre W')
    (hY : ∀ m pre x W, J pre W → pre.length < N → YieldAt Fence.wide m Tryz.prog l (encP L x) W fun e W' => (e = .returned (.bool true) ∧ J (pre ++ [x]) W' ∧ Kq n₀ S W W') ∨ (e = .returned (.bool false) ∧ Jx (pre ++ [x]) W'))
    (hs1 : ∀ i, Live L i → (named (at_ L i).f3).length ≤ 100000) (hs2 : ∀ i, Live L i → ∀ e ∈ named (at_ L i).f3, e.f0.size ≤ 100000) (hwz : ∀ i, Live L i → (way i).length ≤ 100000) (f g : Nat → Nat) (d : Nat) (hd : ∀ j, Live L j → (way j).length < d)
    (W : World) (hB : W.cell? ⟨B, 0, none⟩ = some (.pointer (some ⟨f 0, 0, none⟩))) (hT : TreeOn n₀ S W L way 0 f g) (hn : n₀ ≤ W.heap.size) (h0 : J [] W) (hN : (walkN d L 0 ByteArray.empty).length ≤ N) :
    CallsIn Fence.wide n Tryz.prog 86 #[.func (.yield l) #[] #[], .pointer (some ⟨B, 0, none⟩)] W fun e W' => (∃ v, e = .returned v) ∧ ((∃ ys, ys = walkN d L 0 ByteArray.empty ∧ J ys W') ∨ (∃ pre, pre <+: walkN d L 0 ByteArray.empty ∧ Jx pre W')) := by
  have hdd : ∀ k : Nat, (Fence.wide.depth.isSome = true → 1 ≤ k) := fun k h => by cases h
  have fw87 : Fence.wide.fn 87 := trivial
  have hp := walk_calls L way hG l n₀ N S J Jx hJ hY hs1 hs2 hwz f g d 0 (n - 1) ByteArray.empty [] W hG.root.1 (fun j hj => by have := hd j hj.1; omega) (Nat.zero_le _) hT hn h0 (by simpa using hN)
  refine callsIn_of_wp Tryz.func86 rfl trivial ?_ rfl
  simp only [Tryz.ntmps86, List.size_toArray, List.length_cons, List.length_nil, Nat.reduceAdd, Nat.reduceSub, Array.replicate_succ, Array.replicate_zero, List.push_toArray, List.append_toArray, List.nil_append, List.cons_append]
  gi_wp2_with ((try refine ⟨hdd _, ?_⟩); gi_at_call 87; refine hp.mono ?_; clear hp; rintro e W1 (⟨rfl, hJ1, _⟩ | ⟨rfl, q, hq, hx⟩))
  · go_end0
    exact ⟨⟨_, rfl⟩, .inl ⟨_, rfl, by simpa using hJ1⟩⟩
  · go_end0
    exact ⟨⟨_, rfl⟩, .inr ⟨q, hq, by simpa using hx⟩⟩
/-- what Walk hands back goes over all paths, in their order, or over the first of them -/
theorem walk_stops (L : List S58) (way : Nat → List ByteArray) (hG : Good L way) (n₀ n B : Nat) (S : Nat → Prop) (hs1 : ∀ i, Live L i → (named (at_ L i).f3).length ≤ 100000) (hs2 : ∀ i, Live L i → ∀ e ∈ named (at_ L i).f3, e.f0.size ≤ 100000) (hwz : ∀ i, Live L i → (way i).length ≤ 100000)
    (f g : Nat → Nat) (d : Nat) (hd : ∀ j, Live L j → (way j).length < d) (w : World) (hB : w.cell? ⟨B, 0, none⟩ = some (.pointer (some ⟨f 0, 0, none⟩))) (hT : TreeOn n₀ S w L way 0 f g) (hn : n₀ ≤ w.heap.size) :
    SeqStopsK Fence.wide n Tryz.prog 86 #[.pointer (some ⟨B, 0, none⟩)] (encP L) (Kq n₀ S) (fun ys => ys = walkN d L 0 ByteArray.empty) (fun pre => pre <+: walkN d L 0 ByteArray.empty) (walkN d L 0 ByteArray.empty).length w := fun l J Jx W hW hJ _ hY h0 =>
  walk1_in L way hG l n₀ _ n B S J Jx (fun pre A A' h hb => hJ pre A A' none h ⟨hb.os, hb.tape, hb.output, hb.size, fun k hk _ => hb.block k hk⟩ (fun r e => by cases e))
    (fun m pre x W1 hj hl => by
      obtain ⟨fn, tmps, assign, body, hy, hR⟩ := hY pre x W1 hj hl
      exact ⟨fn, tmps, assign, body, hy, ⟨hR.1, fun c cs _ => hR.2 c cs (fun d h => by cases h)⟩⟩)
    hs1 hs2 hwz f g d hd W ((hW.cell (p := ⟨B, 0, none⟩) (World.block_lt_of_cell? w _ hB)).trans hB) (hT.kq (Kq.of_below hW hn)) (by have := hW.size; omega) h0 (Nat.le_refl _)
end Go.Proofs.YtmjhflmkgmfjkaaGreatDoor
