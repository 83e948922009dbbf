/- A part of the proof: N0, N1, N2, N3, N4, N5, N6. -/
import Derived.Test.YtmjhflmkgmfjkaaGreatDoorAa
import Derived.Ground.SlmcProg
import Derived.Shelf.Lay
import Derived.Shelf.SlMaps.Clone
import Derived.Laws.IdiomRangeMap
import Derived.LoopTactic
import Derived.BigRegion
set_option linter.unusedVariables false
set_option linter.unusedSimpArgs false
namespace Go.Proofs.YtmjhflmkgmfjkaaGreatDoor
open Go.RowKit
/-- how many are left -/
theorem IterB.left_eq {w : World} {r m : Nat} {l : List (ByteArray × Value)} {done : List ByteArray} (h : IterB w r m l done) : w.rangeLeft m r + done.length = l.length := by
  obtain ⟨h0, h1, h2, es, clock, seen, c0, h3, h4, h5, h6, h7, h8, h9⟩ := h
  have hn := h0.nodup
  have e1 : w.rangeLeft m r = (es.toList.filter fun e => !seen.contains e.born).length := by
    unfold World.rangeLeft
    rw [h3, h7]
    simp only
    unfold leftOf
    rw [← Array.length_toList, Array.toList_filter]
  have hkeys : es.toList.map (·.key) = (akeys l).map Value.string := by
    have := congrArg (List.map Prod.fst) h4
    simpa [akeys, List.map_map, Function.comp_def] using this
  have hlen : es.toList.length = l.length := by simpa using congrArg List.length h4
  -- those that have come
  have e2 : (es.toList.filter fun e => seen.contains e.born).length = done.length := by
    have hp : ((es.toList.filter fun e => seen.contains e.born).map (·.key)).Perm (done.map Value.string) := by
      have hinj : ∀ {a b : List ByteArray}, True := fun {_ _} => trivial
      have hnd1 : ((es.toList.filter fun e => seen.contains e.born).map (·.key)).Nodup := by
        have hk : (es.toList.map (·.key)).Nodup := by
          rw [hkeys]
          exact List.pairwise_map.2 (hn.imp (fun hne he => hne (by injection he)))
        exact List.Nodup.sublist (List.Sublist.map _ List.filter_sublist) hk
      have hnd2 : (done.map Value.string).Nodup := List.pairwise_map.2 (h1.imp (fun hne he => hne (by injection he)))
      refine (List.perm_ext_iff_of_nodup hnd1 hnd2).2 (fun v => ?_)
      constructor
      · intro hv
        obtain ⟨e, he, rfl⟩ := List.mem_map.1 hv
        obtain ⟨he1, he2⟩ := List.mem_filter.1 he
        obtain ⟨k, hk, hkk⟩ := (h9 e he1).1 he2
        exact List.mem_map.2 ⟨k, hk, hkk.symm⟩
      · intro hv
        obtain ⟨k, hk, rfl⟩ := List.mem_map.1 hv
        have : Value.string k ∈ es.toList.map (·.key) := by rw [hkeys]; exact List.mem_map.2 ⟨k, h2 k hk, rfl⟩
        obtain ⟨e, he, hek⟩ := List.mem_map.1 this
        exact List.mem_map.2 ⟨e, List.mem_filter.2 ⟨he, (h9 e he).2 ⟨k, hk, hek⟩⟩, hek⟩
    simpa using hp.length_eq
  have e3 : ∀ L : List MapEntry, (L.filter fun e => !seen.contains e.born).length + (L.filter fun e => seen.contains e.born).length = L.length := by
    intro L
    induction L with
    | nil => rfl
    | cons x L ih =>
      simp only [List.filter_cons]
      cases seen.contains x.born <;> simp at ih ⊢ <;> omega
  have := e3 es.toList
  omega
section
variable {P : Program} (w : World) {ops : Array Oper} {rest : List Oper} {o : Oper} {a : Act} {Q : Exit → Act → World → Prop} {t kt e : TypeId} {m : Nat} {l : List (ByteArray × Value)}
theorem wpList_range_s (hg : o.guard = none) (x : Operand) (t : TypeId) (hop : o.op = Op.range t x) (ht : P.underlying t = some (.map kt e)) (hx : a.eval x = .map (some m)) (h : MapB w m l)
    (hK : ∀ w', IterB w' w.heap.size m l [] → Below w.heap.size w w' → w'.heap.size = w.heap.size + 1 → wpList P ops Q rest (a.put o.dst (.pointer (some ⟨w.heap.size, 0, none⟩))) w') :
    wpList P ops Q (o :: rest) a w := by
  refine wpList_plain hg fun K' hK' => ?_
  obtain ⟨ob, hrun, hi⟩ := run_range_s (P := P) ht h
  unfold Oper.wp
  simp [execOp, hop, hx, hrun, Result.andThen]
  exact hK' _ _ (hK _ hi ((Below.refl _ w).alloc (Nat.le_refl _) _) (by simp))
theorem wpList_next_s (hg : o.guard = none) (it : Operand) (hop : o.op = Op.next it false) (r : Nat) {done : List ByteArray} (hit : a.eval it = .pointer (some ⟨r, 0, none⟩)) (h : IterB w r m l done)
    (hDone : (∀ p ∈ l, p.1 ∈ done) → wpList P ops Q rest (a.put o.dst (.tuple #[.bool false])) w)
    (hMore : ∀ k v w', (k, v) ∈ l → k ∉ done → IterB w' r m l (k :: done) → w.grownBy w' (some r) → w'.heap.size = w.heap.size → (Instr.entry (.pointer (some ⟨r, 0, none⟩))).run P w' = .ok (.tuple #[.string k, v]) w' →
      wpList P ops Q rest (a.put o.dst (.tuple #[.bool true, .string k, v])) w') :
    wpList P ops Q (o :: rest) a w := by
  refine wpList_plain hg fun K' hK' => ?_
  unfold Oper.wp
  rcases run_next_s (P := P) h o.type with ⟨hd, hrun⟩ | ⟨k, v, w', h1, h2, hrun, h3, h4, h5, h6⟩
  · simp [execOp, hop, hit, hrun, Result.andThen]
    exact hK' _ _ (hDone hd)
  · simp [execOp, hop, hit, hrun, Result.andThen]
    exact hK' _ _ (hMore k v w' h1 h2 h3 h4 h5 h6)
end
end Go.Proofs.YtmjhflmkgmfjkaaGreatDoor
namespace Go.Proofs.YtmjhflmkgmfjkaaGreatDoor
open Go.RowKit Go.Proofs.YtmjhflmkgmfjkaaGreatDoorW.PrintWords Go.Proofs.YtmjhflmkgmfjkaaGreatDoorW.PrintMore
open PTreeTwins (S58 S106 S35 z58 z106)
theorem whose_named {s : List S106} (hnd : ((named s).map (·.f0)).Nodup) {e : S106} (he : e ∈ named s) : whose s e.f0 = some (eix e) := by
  unfold whose
  have h : ∀ l : List S106, (l.map (·.f0)).Nodup → e ∈ l → l.find? (fun x => decide (x.f0 = e.f0)) = some e := by
    intro l
    induction l with
    | nil => intro _ h; cases h
    | cons x l ih =>
      intro hn hm
      simp only [List.map_cons, List.nodup_cons] at hn
      rw [List.find?_cons]
      rcases List.mem_cons.1 hm with rfl | hm
      · simp
      · by_cases hx : x.f0 = e.f0
        · exact absurd (List.mem_map.2 ⟨e, hm, hx.symm⟩) hn.1
        · simp only [hx, decide_false]
          exact ih hn.2 hm
  rw [h _ hnd he]; rfl
/-- thing j stands at or below thing i -/
def Sub (L : List S58) (way : Nat → List ByteArray) (i j : Nat) : Prop := Live L j ∧ way i <+: way j
theorem Sub.kid {L : List S58} {way : Nat → List ByteArray} (hG : Good L way) {i j : Nat} (hi : Live L i) (h : Sub L way i j) {e : S106} (he : e ∈ named (at_ L j).f3) : Sub L way i (eix e) := by
  obtain ⟨_, h1, h2⟩ := hG.kid j h.1 e he
  exact ⟨h1, by rw [h2]; exact h.2.trans (List.prefix_append _ _)⟩
theorem Sub.refl {L : List S58} {way : Nat → List ByteArray} {i : Nat} (h : Live L i) : Sub L way i i := ⟨h, List.prefix_refl _⟩
theorem Sub.trans {L : List S58} {way : Nat → List ByteArray} {i j k : Nat} (h : Sub L way i j) (h' : Sub L way j k) : Sub L way i k := ⟨h'.1, h.2.trans h'.2⟩
theorem Sub.step {L : List S58} {way : Nat → List ByteArray} (hG : Good L way) {i : Nat} (hi : Live L i) : ∀ (n j : Nat), (way j).length = n → Sub L way i j → j = i ∨ ∃ e ∈ named (at_ L i).f3, Sub L way (eix e) j := by
  intro n
  induction n with
  | zero =>
    intro j hn h
    left
    have h0 : way j = [] := List.eq_nil_of_length_eq_zero hn
    have h1 : way i = [] := by have := h.2; rw [h0] at this; exact List.prefix_nil.1 this
    exact hG.inj j i h.1 hi (by rw [h0, h1])
  | succ n ih =>
    intro j hn h
    by_cases hji : j = i
    · exact .inl hji
    right
    have hj0 : j ≠ 0 := fun e => by subst e; rw [hG.root.2.2] at hn; simp at hn
    obtain ⟨p, hp, hpd, e, he, rfl⟩ := hG.up j h.1 hj0
    obtain ⟨_, h1, h2⟩ := hG.kid p hp e he
    have hpi : way i <+: way p := by
      have h3 := h.2
      rw [h2] at h3
      rcases List.prefix_concat_iff.1 h3 with h4 | h4
      · exact absurd (hG.inj _ _ h1 hi (by rw [h2, h4])) hji
      · exact h4
    rcases ih p (by rw [h2] at hn; simpa using hn) ⟨hp, hpi⟩ with rfl | ⟨e', he', hs⟩
    · exact ⟨e, he, Sub.refl h1⟩
    · exact ⟨e', he', hs.trans ⟨h1, by rw [h2]; exact List.prefix_append _ _⟩⟩
theorem Sub.apart {L : List S58} {way : Nat → List ByteArray} (hG : Good L way) {i j : Nat} (hi : Live L i) {e e' : S106} (he : e ∈ named (at_ L i).f3) (he' : e' ∈ named (at_ L i).f3) (h : Sub L way (eix e) j) (h' : Sub L way (eix e') j) : e.f0 = e'.f0 := by
  have h1 := h.2
  have h2 := h'.2
  rw [(hG.kid i hi e he).2.2] at h1
  rw [(hG.kid i hi e' he').2.2] at h2
  have := List.prefix_of_prefix_length_le h1 h2 (by simp)
  have := this.eq_of_length (by simp)
  simpa using this
theorem Sub.not_up {L : List S58} {way : Nat → List ByteArray} (hG : Good L way) {i : Nat} (hi : Live L i) {e : S106} (he : e ∈ named (at_ L i).f3) (h : Sub L way (eix e) i) : False := by
  have h1 := h.2
  rw [(hG.kid i hi e he).2.2] at h1
  have := h1.length_le
  simp at this
  omega
/-- block k holds no bytes -/
def NoB (w : World) (k : Nat) : Prop := ∀ cs fr, w.heap[k]? ≠ some (.cells cs 5 fr)
theorem bytes_keeps' {w w' : World} {S : Nat → Prop} {base : Nat} {v : Value} {b : List Int} (h : (Kd.int .u8).R 5 w base (fun _ => True) v b) (hk : Keeps S w w') (hS : ∀ k, S k → k < w.heap.size → NoB w k) : (Kd.int .u8).R 5 w' base (fun _ => True) v b := by
  refine Kd.R_mono (Kd.R_step (Kd.R_bound h) (fun k hb hlt => hk.block k hlt (fun hs => ?_))) (fun _ _ => trivial)
  obtain ⟨_, _, _, q, hq, cells, hc⟩ := hb
  have hq' : q = 5 := by simpa [Kd.int, Kd.scalar] using hq
  subst hq'
  exact hS k hs hlt _ _ hc
theorem NodeAt.keeps' {w w' : World} {b m : Nat} {x : S58} {f : Nat → Nat} {S : Nat → Prop} (h : NodeAt w b m x f) (hk : Keeps S w w') (hS : ∀ k, S k → k < w.heap.size → NoB w k) (hb : ¬ S b) (hm : x.f1 = true → ¬ S m) : NodeAt w' b m x f := by
  constructor
  · intro hd
    obtain ⟨hn, kv, hkv, hp⟩ := h.1 hd
    exact ⟨hn.keeps hk hb, kv, hkv.keeps hk (hm hd), hp⟩
  · intro hd
    obtain ⟨v, hn, hv⟩ := h.2 hd
    exact ⟨v, hn.keeps hk hb, bytes_keeps' hv hk hS⟩
/-- The things D of L lie in memory (things' nodes at f, their maps at g), all in blocks from base on. -/
structure CopyOn (w : World) (base : Nat) (L : List S58) (D : Nat → Prop) (f g : Nat → Nat) : Prop where
  node : ∀ j, D j → NodeAt w (f j) (g j) (at_ L j) f
  inj : ∀ j k, D j → D k → f j = f k → j = k
  injm : ∀ j k, D j → D k → (at_ L j).f1 = true → (at_ L k).f1 = true → g j = g k → j = k
  lo : ∀ j, D j → base ≤ f j ∧ ((at_ L j).f1 = true → base ≤ g j)
theorem CopyOn.hi {w : World} {base : Nat} {L : List S58} {D : Nat → Prop} {f g : Nat → Nat} (h : CopyOn w base L D f g) {j : Nat} (hj : D j) : f j < w.heap.size ∧ ((at_ L j).f1 = true → g j < w.heap.size) :=
  ⟨(h.node j hj).lt, fun hd => ((h.node j hj).1 hd).kids.lt⟩
theorem CopyOn.keeps {w w' : World} {base : Nat} {L : List S58} {D : Nat → Prop} {f g : Nat → Nat} {S : Nat → Prop} (h : CopyOn w base L D f g) (hk : Keeps S w w') (hS : ∀ k, S k → k < w.heap.size → NoB w k) (hb : ∀ k, S k → k < base) : CopyOn w' base L D f g :=
  ⟨fun j hj => (h.node j hj).keeps' hk hS (fun hs => by have := hb _ hs; have := (h.lo j hj).1; omega) (fun hd hs => by have := hb _ hs; have := (h.lo j hj).2 hd; omega), h.inj, h.injm, h.lo⟩
theorem CopyOn.part {w : World} {base : Nat} {L : List S58} {D D' : Nat → Prop} {f g : Nat → Nat} (h : CopyOn w base L D f g) (hD : ∀ j, D' j → D j) : CopyOn w base L D' f g :=
  ⟨fun j hj => h.node j (hD j hj), fun j k hj hk => h.inj j k (hD j hj) (hD k hk), fun j k hj hk => h.injm j k (hD j hj) (hD k hk), fun j hj => h.lo j (hD j hj)⟩
theorem CopyOn.below {w w' : World} {base : Nat} {L : List S58} {D : Nat → Prop} {f g : Nat → Nat} (h : CopyOn w base L D f g) (hk : Below w.heap.size w w') : CopyOn w' base L D f g :=
  ⟨fun j hj => (h.node j hj).below hk, h.inj, h.injm, h.lo⟩
theorem NodeAt.congr {w : World} {b m : Nat} {x : S58} {f f' : Nat → Nat} (h : NodeAt w b m x f) (hf : x.f1 = true → ∀ e ∈ named x.f3, f' (eix e) = f (eix e)) : NodeAt w b m x f' :=
  h.keeps (S := fun _ => False) (Keeps.refl _ w) (fun _ hs => hs.elim) (fun hs => hs) (fun _ hs => hs) hf
open Classical in
/-- two parts, the second newer -/
theorem CopyOn.join {w : World} {base mid : Nat} {L : List S58} {D1 D2 : Nat → Prop} {f1 g1 f2 g2 : Nat → Nat} (h1 : CopyOn w base L D1 f1 g1) (h2 : CopyOn w mid L D2 f2 g2) (hm : base ≤ mid) (hmid : ∀ j, D1 j → f1 j < mid ∧ ((at_ L j).f1 = true → g1 j < mid))
    (hk1 : ∀ j, D1 j → (at_ L j).f1 = true → ∀ e ∈ named (at_ L j).f3, D1 (eix e)) (hk2 : ∀ j, D2 j → (at_ L j).f1 = true → ∀ e ∈ named (at_ L j).f3, D2 (eix e)) (hno : ∀ j, D1 j → D2 j → False) :
    CopyOn w base L (fun j => D1 j ∨ D2 j) (fun j => if D2 j then f2 j else f1 j) (fun j => if D2 j then g2 j else g1 j) := by
  have hn : ∀ j, D1 j → ¬ D2 j := fun j a b => hno j a b
  refine ⟨?_, ?_, ?_, ?_⟩
  · intro j hj
    rcases hj with hj | hj
    · rw [if_neg (hn j hj), if_neg (hn j hj)]
      exact (h1.node j hj).congr (fun hd e he => by rw [if_neg (hn _ (hk1 j hj hd e he))])
    · rw [if_pos hj, if_pos hj]
      exact (h2.node j hj).congr (fun hd e he => by rw [if_pos (hk2 j hj hd e he)])
  · intro j k hj hk he
    rcases hj with hj | hj <;> rcases hk with hk | hk
    · rw [if_neg (hn j hj), if_neg (hn k hk)] at he; exact h1.inj j k hj hk he
    · rw [if_neg (hn j hj), if_pos hk] at he
      have := (hmid j hj).1; have := (h2.lo k hk).1; omega
    · rw [if_pos hj, if_neg (hn k hk)] at he
      have := (hmid k hk).1; have := (h2.lo j hj).1; omega
    · rw [if_pos hj, if_pos hk] at he; exact h2.inj j k hj hk he
  · intro j k hj hk dj dk he
    rcases hj with hj | hj <;> rcases hk with hk | hk
    · rw [if_neg (hn j hj), if_neg (hn k hk)] at he; exact h1.injm j k hj hk dj dk he
    · rw [if_neg (hn j hj), if_pos hk] at he
      have := (hmid j hj).2 dj; have := (h2.lo k hk).2 dk; omega
    · rw [if_pos hj, if_neg (hn k hk)] at he
      have := (hmid k hk).2 dk; have := (h2.lo j hj).2 dj; omega
    · rw [if_pos hj, if_pos hk] at he; exact h2.injm j k hj hk dj dk he
  · intro j hj
    rcases hj with hj | hj
    · rw [if_neg (hn j hj), if_neg (hn j hj)]; exact h1.lo j hj
    · rw [if_pos hj, if_pos hj]; exact ⟨by have := (h2.lo j hj).1; omega, fun hd => by have := (h2.lo j hj).2 hd; omega⟩
end Go.Proofs.YtmjhflmkgmfjkaaGreatDoor
namespace Go.Proofs
open Go.Shelf
def Tryz.cloneK_ren : Go.Shelf.Ren := ⟨fun | 5 => 55 | 7 => 85 | n => n, fun | 23 => 83 | 25 => 9 | 3 => 52 | 4 => 4 | 20 => 20 | n => n, fun | n => n⟩
theorem Tryz.cloneK : Go.Proofs.SlLaysW.n5 Tryz.prog Tryz.cloneK_ren := {
  mixed := by kernel_rfl
  f5 := ⟨Tryz.f55.name, by decide, Tryz.func55.trans (congrArg some (by kernel_rfl))⟩
  f7 := Tryz.func85.trans (congrArg some (by kernel_rfl))
  t4 := Tryz.underlying4
  a4 := Tryz.isAgg4
  z4 := Tryz.sizeOf4
  v4 := Tryz.zeroValue4
  t20 := Tryz.underlying20
  a20 := Tryz.isAgg20
  z20 := Tryz.sizeOf20
  v20 := Tryz.zeroValue20
  t23 := Tryz.underlying83
  a23 := Tryz.isAgg83
  z23 := Tryz.sizeOf83
  v23 := Tryz.zeroValue83 }
end Go.Proofs
namespace Go.Proofs.YtmjhflmkgmfjkaaGreatDoor
open Go.RowKit Go.Proofs.YtmjhflmkgmfjkaaGreatDoorW.PrintWords Go.Proofs.YtmjhflmkgmfjkaaGreatDoorW.PrintMore
open PTreeTwins (S58 S106 S35 z58 z106)
theorem cloneM_calls (m : Nat) (l : List (ByteArray × Value)) (w : World) (h : MapB w m l) :
    Calls Tryz.prog 55 #[.map (some m)] w fun e w' => e = .returned (.map (some w.heap.size)) ∧ MapB w' w.heap.size l ∧ Below w.heap.size w w' ∧ w'.heap.size = w.heap.size + 1 := by
  obtain ⟨hn, es, clock, hb, h1, h2, h3⟩ := h
  refine Calls.mono (AnyW.maps_Clone Tryz.cloneK m es clock w hb) ?_
  rintro e w' ⟨rfl, rfl⟩
  exact ⟨rfl, ⟨hn, es, clock, heap_alloc_new w _, h1, h2, h3⟩, (Below.refl _ w).alloc (Nat.le_refl _) _, by simp⟩
theorem cloneM_nil (w : World) : Calls Tryz.prog 55 #[.map none] w fun e w' => e = .returned (.map none) ∧ w' = w :=
  AnyW.maps_Clone_nil Tryz.cloneK w
theorem clone_nil (w : World) : Calls Tryz.prog 32 #[.slice none 0 0] w fun e w' => e = .returned (.slice none 0 0) ∧ w' = w := by
  have he := fun W : World => Lib.run_eql_slice_nil (P := Tryz.prog) W 33 5 none 0 0 0 0 Tryz.underlying33
  go_enter Tryz.func32, Tryz.ntmps32
  go_wp2
  go_ret
  exact ⟨rfl, rfl⟩
end Go.Proofs.YtmjhflmkgmfjkaaGreatDoor
namespace Go.Proofs.YtmjhflmkgmfjkaaGreatDoor
open Go.RowKit Go.Proofs.YtmjhflmkgmfjkaaGreatDoorW.PrintWords Go.Proofs.YtmjhflmkgmfjkaaGreatDoorW.PrintMore
open PTreeTwins (S58 S106 S35 z58 z106)
theorem NodeB.set1 {w : World} {b : Nat} {dir : Bool} {dv kv : Value} {s : Int} (h : NodeB w b dir dv kv s) (v : Value) : NodeB (w.setCell ⟨b, 1, none⟩ v) b dir v kv s := by
  unfold NodeB at *
  simp [World.setCell, Array.getElem?_modify, h]
theorem NodeB.set2 {w : World} {b : Nat} {dir : Bool} {dv kv : Value} {s : Int} (h : NodeB w b dir dv kv s) (v : Value) : NodeB (w.setCell ⟨b, 2, none⟩ v) b dir dv v s := by
  unfold NodeB at *
  simp [World.setCell, Array.getElem?_modify, h]
/-- what twin leaves -/
def TwinPost (w : World) (L : List S58) (way : Nat → List ByteArray) (i : Nat) (e : Ending) (w' : World) : Prop :=
  ∃ f g, e = .returned (.pointer (some ⟨f i, 0, none⟩)) ∧ Below w.heap.size w w' ∧ CopyOn w' w.heap.size L (Sub L way i) f g
set_option maxRecDepth 100000 in
set_option maxHeartbeats 1000000 in
theorem twin_file (w : World) (L : List S58) (way : Nat → List ByteArray) (hG : Good L way) (i b : Nat) (hi : Live L i) (hd : (at_ L i).f1 = false) (hF : FileAt w b (at_ L i)) (hl : (at_ L i).f2.length ≤ 8458240) :
    Calls Tryz.prog 26 #[.pointer (some ⟨b, 0, none⟩)] w (TwinPost w L way i) := by
  obtain ⟨v, hn, hv⟩ := hF
  obtain ⟨A, c, rfl, hc, _⟩ := Kd.R_reads hv
  obtain ⟨c0, c1, c2, c3⟩ := hn.cells
  have hlt := hn.lt
  have hC : ∀ W, Below w.heap.size w W → kB.C W A (at_ L i).f2.length (at_ L i).f2 := fun W hW => by
    obtain ⟨A', c', e, _, h⟩ := Kd.R_reads (Kd.R_below hv hW)
    cases e
    exact h
  have hrg := fun W => run_range_nilMap (P := Tryz.prog) W 83 _ _ Tryz.underlying83
  have hnx : ∀ (W : World) (ty : TypeId), (Instr.next (.pointer (some ⟨W.heap.size, 0, none⟩)) false ty).run Tryz.prog (W.alloc (.mapIter none 0 #[] 0)) = .ok (.tuple #[.bool false]) (W.alloc (.mapIter none 0 #[] 0)) := fun W ty => run_next_nilMap _ ty 0 0 #[]
  have hclone := fun W hW => clone_calls A (at_ L i).f2.length c (at_ L i).f2 W (hC W hW) hc (by omega)
  generalize hln : (at_ L i).f2.length = n at *
  have Hln := Lib.hid hln
  clear hC hv hln
  have hW0 : Below w.heap.size w (w.alloc (.cells #[.bool false, .slice A n c, .map none, .int .i64 0] 85)) := (Below.refl _ w).alloc (Nat.le_refl _) _
  go_enter Tryz.func26, Tryz.ntmps26
  go_wp2_with (first
    | (go_at_call 32; refine (hclone _ (by exact hW0)).mono ?_; rintro e w1 ⟨v1, rfl, hR1, hb1⟩
       obtain ⟨A1, c1', rfl, hc1, _⟩ := Kd.R_reads hR1
       have hN1 : NodeB w1 w.heap.size false (.slice A n c) (.map none) 0 := (hb1.block _ (by simp)).trans (heap_alloc_new w _)
       have hNb : NodeB w1 b false (.slice A n c) (.map none) 0 := hn.below (hW0.trans (hb1.mono (by simp)))
       obtain ⟨x0, x1, x2, x3⟩ := hN1.cells
       obtain ⟨y0, y1, y2, y3⟩ := hNb.cells
       have fz := hN1.frozen 1
       have fz2 := hN1.frozen 2
       clear hN1 hNb)
    | (go_at_call 55; refine (cloneM_nil _).mono ?_; rintro e w2 ⟨rfl, rfl⟩))
  refine wp_loop_rounds 1 ?_
  rw [rounds_succ]
  have hz := hnx ((w1.setCell ⟨w.heap.size, 1, none⟩ (.slice A1 (at_ L i).f2.length c1')).setCell ⟨w.heap.size, 2, none⟩ (.map none))
  simp only [World.size_setCell] at hz
  go_wp2
  go_ret
  have hs1 := hb1.size
  simp at hs1
  have hb : Below w.heap.size w w1 := hW0.trans (hb1.mono (by simp))
  have hN1 : NodeB w1 w.heap.size false (.slice A n c) (.map none) 0 := (hb1.block _ (by simp)).trans (heap_alloc_new w _)
  have hk : Keeps (fun k => k = w.heap.size) w1 (((w1.setCell ⟨w.heap.size, 1, none⟩ (.slice A1 (at_ L i).f2.length c1')).setCell ⟨w.heap.size, 2, none⟩ (.map none)).alloc (.mapIter none 0 #[] 0)) :=
    (((Keeps.refl (fun k => k = w.heap.size) w1).setCell (p := ⟨w.heap.size, 1, none⟩) (.inl rfl) _).setCell (p := ⟨w.heap.size, 2, none⟩) (.inl rfl) _).alloc _
  have hR2 := bytes_keeps (kB_base hR1) hk (fun k hk _ => by subst hk; exact .inl ⟨_, _, hN1, by decide⟩)
  have hN2 := ((hN1.set1 (.slice A1 (at_ L i).f2.length c1')).set2 (.map none)).below ((Below.refl _ _).alloc (Nat.le_refl _) (.mapIter none 0 #[] 0))
  have hsub : ∀ j, Sub L way i j → j = i := fun j hj => by
    rcases Sub.step hG hi _ j rfl hj with h | ⟨e, he, _⟩
    · exact h
    · rw [hG.file i hi hd] at he; cases he
  refine ⟨fun _ => w.heap.size, fun _ => w.heap.size, rfl, ?_, ?_⟩
  · exact hb.trans (hk.below (by omega) (fun k hk => by omega))
  · refine ⟨fun j hj => ?_, fun j k hj hk _ => by rw [hsub j hj, hsub k hk], fun j k hj hk _ _ _ => by rw [hsub j hj, hsub k hk], fun j hj => ⟨Nat.le_refl _, fun _ => Nat.le_refl _⟩⟩
    rw [hsub j hj]
    exact ⟨fun h => (by rw [hd] at h; cases h), fun _ => ⟨_, hN2, hR2⟩⟩
end Go.Proofs.YtmjhflmkgmfjkaaGreatDoor
namespace Go.Proofs.YtmjhflmkgmfjkaaGreatDoor
open Go.RowKit Go.Proofs.YtmjhflmkgmfjkaaGreatDoorW.PrintWords Go.Proofs.YtmjhflmkgmfjkaaGreatDoorW.PrintMore
open PTreeTwins (S58 S106 S35 z58 z106)
attribute [local instance] lawful_ba
/-- an entry of the copy's map, when the names 'done' have been done -/
def updK (s : List S106) (done : List ByteArray) (f : Nat → Nat) (p : ByteArray × Value) : ByteArray × Value := if p.1 ∈ done then (p.1, ptrO f (whose s p.1)) else p
theorem updK_fst (s : List S106) (done : List ByteArray) (f : Nat → Nat) (p : ByteArray × Value) : (updK s done f p).1 = p.1 := by unfold updK; split <;> rfl
theorem updK_nil (s : List S106) (f : Nat → Nat) (l : List (ByteArray × Value)) : l.map (updK s [] f) = l := by
  have : updK s [] f = id := by funext p; simp [updK]
  rw [this, List.map_id]
theorem updK_step {s : List S106} {done : List ByteArray} {f f' : Nat → Nat} {l : List (ByteArray × Value)} {n : ByteArray} {v : Value} (hn : n ∈ akeys l) (hv : v = ptrO f' (whose s n)) (hf : ∀ p ∈ l, p.1 ∈ done → ptrO f' (whose s p.1) = ptrO f (whose s p.1)) :
    aset (l.map (updK s done f)) n v = l.map (updK s (n :: done) f') := by
  have hany : (l.map (updK s done f)).any (fun p => n == p.1) = true := by
    obtain ⟨p, hp, rfl⟩ := List.mem_map.1 hn
    refine List.any_eq_true.2 ⟨_, List.mem_map.2 ⟨p, hp, rfl⟩, ?_⟩
    rw [updK_fst, ba_beq]; simp
  unfold aset
  rw [if_pos hany, List.map_map]
  refine List.map_congr_left (fun p hp => ?_)
  simp only [Function.comp, updK_fst, ba_beq]
  by_cases h : n = p.1
  · subst h
    simp [updK, hv]
  · rw [if_neg (by simpa using h)]
    unfold updK
    by_cases h2 : p.1 ∈ done
    · rw [if_pos h2, if_pos (List.mem_cons_of_mem _ h2), hf p hp h2]
    · rw [if_neg h2, if_neg (by simp [h2]; exact fun e => h e.symm)]
/-- what the loop of twin holds: 'done' names' things are copied -/
structure TwinAt (w wr : World) (L : List S58) (way : Nat → List ByteArray) (i m : Nat) (s : Int) (kv : List (ByteArray × Value)) (done : List ByteArray) (f g : Nat → Nat) : Prop where
  iter : IterB wr (w.heap.size + 2) m kv done
  map : MapB wr (w.heap.size + 1) (kv.map (updK (at_ L i).f3 done f))
  node : NodeB wr w.heap.size true (.slice none 0 0) (.map (some (w.heap.size + 1))) s
  below : Below w.heap.size w wr
  sz : w.heap.size + 3 ≤ wr.heap.size
  copy : CopyOn wr (w.heap.size + 3) L (fun j => ∃ e ∈ named (at_ L i).f3, e.f0 ∈ done ∧ Sub L way (eix e) j) f g
theorem twin_end {w wr : World} {L : List S58} {way : Nat → List ByteArray} {i m : Nat} {s : Int} {kv : List (ByteArray × Value)} {done : List ByteArray} {f f' g' : Nat → Nat} (hG : Good L way) (hi : Live L i) (hd : (at_ L i).f1 = true) (hp : kv.Perm ((named (at_ L i).f3).map (entVal f)))
    (hs : slotsOf (at_ L i).f3 = s) (H : TwinAt w wr L way i m s kv done f' g') (hall : ∀ a b, (a, b) ∈ kv → a ∈ done) :
    TwinPost w L way i (.returned (.pointer (some ⟨w.heap.size, 0, none⟩))) wr := by
  have hdone : ∀ e ∈ named (at_ L i).f3, e.f0 ∈ done := fun e he => hall e.f0 _ (hp.mem_iff.2 (List.mem_map.2 ⟨e, he, rfl⟩))
  have hnd := hG.names i hi
  have hne : ∀ e ∈ named (at_ L i).f3, eix e ≠ i := fun e he h => Sub.not_up hG hi he (by rw [h]; exact Sub.refl hi)
  have hcase : ∀ j, Sub L way i j → j ≠ i → ∃ e ∈ named (at_ L i).f3, e.f0 ∈ done ∧ Sub L way (eix e) j := fun j hj hji => by
    rcases Sub.step hG hi _ j rfl hj with h | ⟨e, he, h⟩
    · exact absurd h hji
    · exact ⟨e, he, hdone e he, h⟩
  have hup : ∀ j e, Sub L way i j → e ∈ named (at_ L j).f3 → eix e ≠ i := fun j e hj he h => by
    have h1 := (hG.kid j hj.1 e he).2.2
    have h2 := hj.2.length_le
    rw [h] at h1
    rw [h1] at h2
    simp at h2
    omega
  refine ⟨fun j => if j = i then w.heap.size else f' j, fun j => if j = i then w.heap.size + 1 else g' j, by simp, H.below, ⟨fun j hj => ?_, fun j k hj hk he => ?_, fun j k hj hk dj dk he => ?_, fun j hj => ?_⟩⟩
  · by_cases hji : j = i
    · subst hji
      simp only [if_true]
      refine ⟨fun _ => ⟨by rw [hs]; exact H.node, _, H.map, ?_⟩, fun h => (by rw [hd] at h; cases h)⟩
      refine (hp.map _).trans ?_
      rw [List.map_map]
      refine List.Perm.of_eq (List.map_congr_left (fun e he => ?_))
      simp only [Function.comp, entVal, updK, if_pos (hdone e he), whose_named hnd he, ptrO, Option.map_some, if_neg (hne e he)]
    · simp only [if_neg hji]
      exact (H.copy.node j (hcase j hj hji)).congr (fun _ e he => by rw [if_neg (hup j e hj he)])
  · by_cases hji : j = i <;> by_cases hki : k = i
    · rw [hji, hki]
    · simp only [if_pos hji, if_neg hki] at he
      have := (H.copy.lo k (hcase k hk hki)).1; omega
    · simp only [if_neg hji, if_pos hki] at he
      have := (H.copy.lo j (hcase j hj hji)).1; omega
    · simp only [if_neg hji, if_neg hki] at he
      exact H.copy.inj j k (hcase j hj hji) (hcase k hk hki) he
  · by_cases hji : j = i <;> by_cases hki : k = i
    · rw [hji, hki]
    · simp only [if_pos hji, if_neg hki] at he
      have := (H.copy.lo k (hcase k hk hki)).2 dk; omega
    · simp only [if_neg hji, if_pos hki] at he
      have := (H.copy.lo j (hcase j hj hji)).2 dj; omega
    · simp only [if_neg hji, if_neg hki] at he
      exact H.copy.injm j k (hcase j hj hji) (hcase k hk hki) dj dk he
  · by_cases hji : j = i
    · simp only [if_pos hji]; exact ⟨Nat.le_refl _, fun _ => by omega⟩
    · simp only [if_neg hji]
      have := H.copy.lo j (hcase j hj hji)
      exact ⟨by omega, fun hd => by have := this.2 hd; omega⟩
open Classical in
theorem twin_step {w wr W w4 w5 : World} {L : List S58} {way : Nat → List ByteArray} {i m : Nat} {s : Int} {kv : List (ByteArray × Value)} {done : List ByteArray} {f f' g' f4 g4 : Nat → Nat} (hG : Good L way) (hi : Live L i) (hp : kv.Perm ((named (at_ L i).f3).map (entVal f))) (hm : m < w.heap.size)
    (H : TwinAt w wr L way i m s kv done f' g') (hg2 : wr.grownBy W (some (w.heap.size + 2))) (hs2 : W.heap.size = wr.heap.size) {e : S106} (he : e ∈ named (at_ L i).f3) (hnd : ¬ e.f0 ∈ done) (hit2 : IterB W (w.heap.size + 2) m kv (e.f0 :: done))
    (hb4 : Below W.heap.size W w4) (hc4 : CopyOn w4 W.heap.size L (Sub L way (eix e)) f4 g4)
    (hm5 : MapB w5 (w.heap.size + 1) (aset (kv.map (updK (at_ L i).f3 done f')) e.f0 (.pointer (some ⟨f4 (eix e), 0, none⟩)))) (hg5 : w4.grownBy w5 (some (w.heap.size + 1))) (hs5 : w5.heap.size = w4.heap.size) :
    ∃ f'' g'', TwinAt w w5 L way i m s kv (e.f0 :: done) f'' g'' := by
  have hnames := hG.names i hi
  have hle := (hG.kid i hi e he).2.1
  have hsz := H.sz
  have hMW : MapB W (w.heap.size + 1) (kv.map (updK (at_ L i).f3 done f')) := H.map.keeps (Keeps.of_grown hg2) (fun e => by injection e with e; omega)
  have hM4 := hMW.of_block (hb4.block _ (by omega))
  have c1 : CopyOn W (w.heap.size + 3) L (fun j => ∃ e ∈ named (at_ L i).f3, e.f0 ∈ done ∧ Sub L way (eix e) j) f' g' :=
    H.copy.keeps (Keeps.of_grown hg2) (fun k hk _ cs fr hc => by
      injection hk with hk
      obtain ⟨_, _, _, es, clock, seen, c0, _, _, _, _, h7, _⟩ := H.iter
      rw [← hk, h7] at hc; cases hc) (fun k hk => by injection hk with hk; omega)
  have c2 := c1.below hb4
  have hdis : ∀ j, (∃ e ∈ named (at_ L i).f3, e.f0 ∈ done ∧ Sub L way (eix e) j) → Sub L way (eix e) j → False := fun j ⟨e', he', hd', hs'⟩ h2 => hnd (by rw [Sub.apart hG hi he he' h2 hs']; exact hd')
  have c3 := CopyOn.join c2 hc4 (by omega) (fun j hj => c1.hi hj) (fun j hj hd x hx => by obtain ⟨e', he', hd', hs'⟩ := hj; exact ⟨e', he', hd', Sub.kid hG (hG.kid i hi e' he').2.1 hs' hx⟩) (fun j hj hd x hx => Sub.kid hG hle hj hx) hdis
  have c4 := c3.keeps (Keeps.of_grown hg5) (fun k hk _ cs fr hc => by
      injection hk with hk
      obtain ⟨_, es, c, hb, _⟩ := hM4
      rw [← hk, hb] at hc; cases hc) (fun k hk => by injection hk with hk; omega)
  have hb5 : Below w.heap.size w w5 := ((H.below.grown hg2 H.below.size (fun k hk => by injection hk with hk; omega)).trans (hb4.mono (by omega))).grown hg5 (by have := hb4.size; omega) (fun k hk => by injection hk with hk; omega)
  have k45 := Keeps.of_grown hg5
  refine ⟨_, _, ⟨?_, ?_, ?_, hb5, by have := hb4.size; omega, c4.part (fun j hj => ?_)⟩⟩
  · refine hit2.of_blocks ?_ ?_
    · exact (k45.block m (by have := hb4.size; omega) (fun e => by injection e with e; omega)).trans (hb4.block m (by omega))
    · exact (k45.block _ (by have := hb4.size; omega) (fun e => by injection e with e; omega)).trans (hb4.block _ (by omega))
  · have hu : aset (kv.map (updK (at_ L i).f3 done f')) e.f0 (.pointer (some ⟨f4 (eix e), 0, none⟩)) = kv.map (updK (at_ L i).f3 (e.f0 :: done) (fun j => if Sub L way (eix e) j then f4 j else f' j)) := by
      refine updK_step (List.mem_map.2 ⟨_, hp.mem_iff.2 (List.mem_map.2 ⟨e, he, rfl⟩), rfl⟩) ?_ (fun p hpm hpd => ?_)
      · rw [whose_named hnames he]
        simp only [ptrO, Option.map_some]
        rw [if_pos (Sub.refl hle)]
      · obtain ⟨e', he', rfl⟩ := List.mem_map.1 (hp.mem_iff.1 hpm)
        simp only [entVal] at hpd ⊢
        rw [whose_named hnames he']
        simp only [ptrO, Option.map_some]
        rw [if_neg (fun h => hdis _ ⟨e', he', hpd, Sub.refl (hG.kid i hi e' he').2.1⟩ h)]
    rw [← hu]; exact hm5
  · exact ((H.node.keeps (Keeps.of_grown hg2) (fun e => by injection e with e; omega)).below (hb4.mono (Nat.le_refl _))).keeps k45 (fun e => by injection e with e; omega)
  · obtain ⟨e', he', hd', hs'⟩ := hj
    rcases List.mem_cons.1 hd' with h | h
    · right
      have h1 := whose_named hnames he
      have h2 := whose_named hnames he'
      rw [h, h1] at h2
      injection h2 with h2
      rw [h2]; exact hs'
    · exact .inl ⟨e', he', h, hs'⟩
set_option maxRecDepth 100000 in
set_option maxHeartbeats 2000000 in
theorem twin_dir (w : World) (L : List S58) (way : Nat → List ByteArray) (hG : Good L way) (i : Nat) (f g : Nat → Nat) (hi : Live L i) (hd : (at_ L i).f1 = true) (hN : ∀ j, Sub L way i j → NodeAt w (f j) (g j) (at_ L j) f)
    (ih : ∀ e ∈ named (at_ L i).f3, ∀ W, Below w.heap.size w W → Calls Tryz.prog 26 #[.pointer (some ⟨f (eix e), 0, none⟩)] W (TwinPost W L way (eix e))) :
    Calls Tryz.prog 26 #[.pointer (some ⟨f i, 0, none⟩)] w (TwinPost w L way i) := by
  obtain ⟨hn, kv, hm, hp⟩ := (hN i (Sub.refl hi)).1 hd
  generalize hs : slotsOf (at_ L i).f3 = s at *
  have Hs := Lib.hid hs
  obtain ⟨c0, c1, c2, c3⟩ := hn.cells
  have hlt := hn.lt
  have hmlt := hm.lt
  have hW0 : Below w.heap.size w (w.alloc (.cells #[.bool true, .slice none 0 0, .map (some (g i)), .int .i64 s] 85)) := (Below.refl _ w).alloc (Nat.le_refl _) _
  have hN0 : NodeB (w.alloc (.cells #[.bool true, .slice none 0 0, .map (some (g i)), .int .i64 s] 85)) w.heap.size true (.slice none 0 0) (.map (some (g i))) s := heap_alloc_new w _
  clear hs
  go_enter Tryz.func26, Tryz.ntmps26
  go_wp2_with (first
    | (go_at_call 32; refine (clone_nil _).mono ?_; rintro e w1 ⟨rfl, rfl⟩)
    | (go_at_call 55; refine (cloneM_calls (g i) kv _ (by exact hm.of_block (hW0.block _ hmlt))).mono ?_; rintro e w2 ⟨rfl, hm2, hb2, hs2⟩
       simp only [World.size_alloc] at hm2 hb2 hs2
       have hN2 : NodeB w2 w.heap.size true (.slice none 0 0) (.map (some (g i))) s := (hb2.block _ (by simp)).trans hN0
       have fz2 := hN2.frozen 2
       obtain ⟨x0, x1, x2, x3⟩ := hN2.cells
       have hB2 : Below w.heap.size w w2 := hW0.trans (hb2.mono (by simp))
       obtain ⟨y0, y1, y2, y3⟩ := (hn.below hB2).cells)
    | (at_range; refine wpList_range_s _ rfl _ 83 rfl Tryz.underlying83 rfl (l := kv) (by exact (hm.of_block (hB2.block _ hmlt)).of_block (Below.heap_setCell _ _ _ _ (by simp; omega))) ?_; intro w3 hi3 hb3 hs3))
  simp only [World.size_setCell, hs2] at hi3 hb3 hs3 ⊢
  go_frame
  -- what is made by now
  have hsB : Below w.heap.size w w3 := hB2.trans ((((Below.refl w.heap.size w2).setCell (p := ⟨w.heap.size, 2, none⟩) (Nat.le_refl _) (.map (some (w.heap.size + 1))))).trans (hb3.mono (by omega)))
  have hN3 : NodeB w3 w.heap.size true (.slice none 0 0) (.map (some (w.heap.size + 1))) s := (hb3.block _ (by omega)).trans (hN2.set2 _)
  have hm3 : MapB w3 (w.heap.size + 1) kv := (hm2.of_block (Below.heap_setCell _ _ _ _ (by simp))).of_block (hb3.block _ (by omega))
  have H0 : TwinAt w w3 L way i (g i) s kv [] f g := ⟨hi3, by rw [updK_nil]; exact hm3, hN3, hsB, by omega, ⟨fun j hj => (by obtain ⟨_, _, h, _⟩ := hj; cases h), fun j _ hj => (by obtain ⟨_, _, h, _⟩ := hj; cases h), fun j _ hj => (by obtain ⟨_, _, h, _⟩ := hj; cases h), fun j hj => (by obtain ⟨_, _, h, _⟩ := hj; cases h)⟩⟩
  clear hN3 hm3 hi3 hb3 hs3 hN2 fz2 x0 x1 x2 x3 hB2 y0 y1 y2 y3 hb2 hs2 hm2 hN0 hW0 hsB
  go_loopw [4, 5] (fun _ _ wr => ∃ done f' g', TwinAt w wr L way i (g i) s kv done f' g') (fun _ _ wr => wr.rangeLeft (g i) (w.heap.size + 2))
  case atStart => exact ⟨[], f, g, H0⟩
  case round =>
    clear H0
    obtain ⟨done, f', g', H⟩ := hrel
    have HT := Lib.hid H
    have hit := H.iter
    clear H
    go_wp2_with (first
      | (at_next; refine wpList_next_s _ rfl _ rfl (w.heap.size + 2) rfl hit ?_ ?_)
      | go_in)
    · intro hall
      go_wp2
      go_ret
      exact twin_end hG hi hd hp Hs.out HT.out hall
    · intro nm v W hmem hnd hit2 hg2 hs2 hent
      obtain ⟨e, he, hev⟩ := List.mem_map.1 (hp.mem_iff.1 hmem)
      simp only [entVal, Prod.mk.injEq] at hev
      obtain ⟨rfl, rfl⟩ := hev
      have HH := HT.out
      have hbW : Below w.heap.size w W := HH.below.grown hg2 HH.below.size (fun k hk => by cases hk; omega)
      have hNW : NodeB W w.heap.size true (.slice none 0 0) (.map (some (w.heap.size + 1))) s := HH.node.keeps (Keeps.of_grown hg2) (fun e => by injection e with e; omega)
      obtain ⟨x0, x1, x2, x3⟩ := hNW.cells
      have hMW : MapB W (w.heap.size + 1) (kv.map (updK (at_ L i).f3 done f')) := HH.map.keeps (Keeps.of_grown hg2) (fun e => by injection e with e; omega)
      have hcall := ih e he W.drew (by exact hbW.drew)
      have hszW : w.heap.size + 3 ≤ W.heap.size := by rw [hs2]; exact HH.sz
      clear HH
      go_wp2
      go_region_held3 (fun W' => W'.cell? ⟨w.heap.size, 2, none⟩ = some (.map (some (w.heap.size + 1))))
        (first | go_keep | exact k4 | exact k5)
        (first
          | (go_at_call 26; refine hcall.mono ?_; rintro e4 w4 ⟨f4, g4, rfl, hb4, hc4⟩
             obtain ⟨w5, hrun5, hm5, hg5, hs5, _⟩ := run_mapUpdate_s (P := Tryz.prog) (w := w4) Tryz.underlying83 Tryz.underlying9 (hMW.of_block (hb4.block _ (by simp; omega))) e.f0 (.pointer (some ⟨f4 (eix e), 0, none⟩))
             have k4 : w4.cell? ⟨w.heap.size, 2, none⟩ = some (.map (some (w.heap.size + 1))) := (hb4.cell (p := ⟨w.heap.size, 2, none⟩) (by simp; omega)).trans x2
             have k5 : w5.cell? ⟨w.heap.size, 2, none⟩ = some (.map (some (w.heap.size + 1))) := (Keeps.of_grown hg5).cell k4 (fun e => by injection e with e; simp at e)))
      all_goals
        go_wp2
        go_roundw
        case rel =>
          obtain ⟨f'', g'', h⟩ := twin_step hG hi hp hmlt HT.out hg2 hs2 he hnd hit2 (W := W) (w4 := w4) ⟨hb4.os, hb4.tape, hb4.output, hb4.size, hb4.block⟩ hc4 hm5 hg5 hs5
          exact ⟨_, f'', g'', h⟩
        case measure =>
          obtain ⟨f'', g'', h⟩ := twin_step hG hi hp hmlt HT.out hg2 hs2 he hnd hit2 (W := W) (w4 := w4) ⟨hb4.os, hb4.tape, hb4.output, hb4.size, hb4.block⟩ hc4 hm5 hg5 hs5
          have h1 := h.iter.left_eq
          have h2 := HT.out.iter.left_eq
          simp at h1
          omega
/-- (*node).twin -/
theorem twin_calls (L : List S58) (way : Nat → List ByteArray) (hG : Good L way) (hl : ∀ i, (at_ L i).f2.length ≤ 8458240) (d : Nat) : ∀ (i : Nat) (w : World) (f g : Nat → Nat), Live L i → (∀ j, Sub L way i j → (way j).length < (way i).length + d) → (∀ j, Sub L way i j → NodeAt w (f j) (g j) (at_ L j) f) →
    Calls Tryz.prog 26 #[.pointer (some ⟨f i, 0, none⟩)] w (TwinPost w L way i) := by
  induction d with
  | zero => intro i w f g hi hd _; exact absurd (hd i (Sub.refl hi)) (by omega)
  | succ d ih =>
    intro i w f g hi hd hN
    cases hdir : (at_ L i).f1 with
    | false => exact twin_file w L way hG i (f i) hi hdir ((hN i (Sub.refl hi)).2 hdir) (hl i)
    | true =>
      refine twin_dir w L way hG i f g hi hdir hN (fun e he W hW => ?_)
      obtain ⟨_, h1, h2⟩ := hG.kid i hi e he
      have hsub : ∀ j, Sub L way (eix e) j → Sub L way i j := fun j hj => Sub.trans (Sub.kid hG hi (Sub.refl hi) he) hj
      exact ih (eix e) W f g h1 (fun j hj => by have := hd j (hsub j hj); rw [h2]; simp; omega) (fun j hj => (hN j (hsub j hj)).below hW)
end Go.Proofs.YtmjhflmkgmfjkaaGreatDoor
namespace Go.Proofs.YtmjhflmkgmfjkaaGreatDoor
open Go.RowKit Go.Proofs.YtmjhflmkgmfjkaaGreatDoorW.PrintWords Go.Proofs.YtmjhflmkgmfjkaaGreatDoorW.PrintMore
open PTreeTwins (S58 S106 S35 z58 z106)
theorem way_max (L : List S58) (way : Nat → List ByteArray) : ∃ d, ∀ j, Live L j → (way j).length < d := by
  have h : ∀ n, ∃ d, ∀ j, j < n → (way j).length < d := by
    intro n
    induction n with
    | zero => exact ⟨0, fun j hj => by omega⟩
    | succ n ih =>
      obtain ⟨d, hd⟩ := ih
      refine ⟨max d ((way n).length + 1), fun j hj => ?_⟩
      rcases Nat.lt_succ_iff_lt_or_eq.1 hj with h | h
      · have := hd j h; omega
      · subst h; omega
  obtain ⟨d, hd⟩ := h L.length
  exact ⟨d, fun j hj => hd j (live_lt hj)⟩
theorem root_sub {L : List S58} {way : Nat → List ByteArray} (hG : Good L way) {j : Nat} : Sub L way 0 j ↔ Live L j := ⟨fun h => h.1, fun h => ⟨h, by rw [hG.root.2.2]; exact List.nil_prefix⟩⟩
set_option maxRecDepth 100000 in
set_option maxHeartbeats 1000000 in
theorem treeTwin_calls (w : World) (t : Nat) (f g : Nat → Nat) (way : Nat → List ByteArray) (r : RS) (hI : ImplAt w t f g r) (hG : Good r.L way) (hl : ∀ i, (at_ r.L i).f2.length ≤ 8458240) :
    Calls Tryz.prog 11 #[.pointer (some ⟨t, 0, none⟩)] w fun e w' => ∃ u f' g', e = .returned (.pointer (some ⟨u, 0, none⟩)) ∧ Below w.heap.size w w' ∧ ImplAt w' u f' g' r ∧ ∀ k, Own u f' g' r.L k → w.heap.size ≤ k := by
  obtain ⟨c0, c1, c2⟩ := hI.tree.cells
  have hlt := World.block_lt_of_cell? w _ c0
  obtain ⟨d, hd⟩ := way_max r.L way
  have hcall : ∀ n, Calls Tryz.prog 26 #[.pointer (some ⟨f 0, 0, none⟩)] (w.drewN n) (TwinPost (w.drewN n) r.L way 0) := fun n =>
    twin_calls r.L way hG hl d 0 (w.drewN n) f g hG.root.1 (fun j hj => by have := hd j hj.1; omega) (fun j hj => (hI.node j hj.1).below (pw_below_drewN (Below.refl _ _) n))
  have hc1 := hcall 1
  go_enter Tryz.func11, Tryz.ntmps11
  go_wp2
  go_region_held3 (fun W => W.cell? ⟨t, 0, none⟩ = some (.pointer (some ⟨f 0, 0, none⟩)) ∧ W.cell? ⟨t, 1, none⟩ = some (.int .i64 r.bl) ∧ W.cell? ⟨t, 2, none⟩ = some (.int .i64 r.ino))
    (first | go_keep | exact ⟨(hb1.cell (p := ⟨t, 0, none⟩) hlt).trans c0, (hb1.cell (p := ⟨t, 1, none⟩) hlt).trans c1, (hb1.cell (p := ⟨t, 2, none⟩) hlt).trans c2⟩)
    (first | (go_at_call 26; refine hc1.mono ?_; rintro e w1 ⟨f1, g1, rfl, hb1, hc⟩))
  all_goals
    go_wp2
    go_ret
    have hB : Below w.heap.size w w1 := (Below.refl _ w).drew.trans ⟨hb1.os, hb1.tape, hb1.output, hb1.size, hb1.block⟩
    have hB2 := hB.alloc hB.size (.cells #[.pointer (some ⟨f1 0, 0, none⟩), .int .i64 r.bl, .int .i64 r.ino] 55)
    have hc' := hc.below ((Below.refl _ w1).alloc (Nat.le_refl _) (.cells #[.pointer (some ⟨f1 0, 0, none⟩), .int .i64 r.bl, .int .i64 r.ino] 55))
    refine ⟨w1.heap.size, f1, g1, rfl, hB2, ⟨heap_alloc_new w1 _, fun i hi => hc'.node i ((root_sub hG).2 hi), fun i j hi hj => hc'.inj i j ((root_sub hG).2 hi) ((root_sub hG).2 hj), fun i j hi hj => hc'.injm i j ((root_sub hG).2 hi) ((root_sub hG).2 hj)⟩, fun k hk => ?_⟩
    rcases hk with rfl | ⟨i, hi, rfl | ⟨hdd, rfl⟩⟩
    · exact hB.size
    · exact (hc'.lo i ((root_sub hG).2 hi)).1
    · exact (hc'.lo i ((root_sub hG).2 hi)).2 hdd
end Go.Proofs.YtmjhflmkgmfjkaaGreatDoor
namespace Go.Proofs.YtmjhflmkgmfjkaaGreatDoor
open Go.RowKit Go.Proofs.YtmjhflmkgmfjkaaGreatDoorW.PrintWords Go.Proofs.YtmjhflmkgmfjkaaGreatDoorW.PrintMore
open PTreeTwins (S58 S106 S35 z58 z106)
attribute [local instance] lawful_ba
set_option maxRecDepth 100000 in
set_option maxHeartbeats 1000000 in
theorem equalFunc_nil (w : World) (fv : Value) : Calls Tryz.prog 57 #[.map none, .map none, fv] w fun e w' => e = .returned (.bool true) ∧ Below w.heap.size w w' := by
  have l1 : ∀ ty, (Builtin.len_ #[83] ty #[.map none]).run Tryz.prog w = .ok (.int .i64 0) w := fun ty => Maps.len_nil Tryz.underlying83 ty
  have hrg := run_range_nilMap (P := Tryz.prog) w 83 _ _ Tryz.underlying83
  have hnx : ∀ ty, (Instr.next (.pointer (some ⟨w.heap.size, 0, none⟩)) false ty).run Tryz.prog (w.alloc (.mapIter none 0 #[] 0)) = _ := fun ty => run_next_nilMap _ ty 0 0 #[]
  go_enter Tryz.func57, Tryz.ntmps57
  go_wp2
  refine wp_loop_rounds 1 ?_
  rw [rounds_succ]
  go_wp2
  go_ret
  exact ⟨rfl, (Below.refl _ w).alloc (Nat.le_refl _) _⟩
/-- what EqualFunc says: q: what its function says at a name -/
def eqKids (l1 l2 : List (ByteArray × Value)) (q : ByteArray → Bool) : Bool := decide (l1.length = l2.length) && l1.all fun p => (aget l2 p.1).isSome && q p.1
theorem enters27 : ∀ args W, (callFunc 27 args).run Tryz.prog W = .ok (.enter 27 args) W := enters_of Tryz.func27 (by kernel_rfl) rfl
structure EqAt (w wr : World) (m1 m2 : Nat) (l1 l2 : List (ByteArray × Value)) (q : ByteArray → Bool) (done : List ByteArray) : Prop where
  iter : IterB wr w.heap.size m1 l1 done
  below : Below w.heap.size w wr
  good : ∀ p ∈ l1, p.1 ∈ done → ((aget l2 p.1).isSome && q p.1) = true
  sz : w.heap.size + 1 ≤ wr.heap.size
set_option maxRecDepth 100000 in
set_option maxHeartbeats 2000000 in
theorem equalFunc_calls (w : World) (m1 m2 : Nat) (l1 l2 : List (ByteArray × Value)) (h1 : MapB w m1 l1) (h2 : MapB w m2 l2) (q : ByteArray → Bool)
    (heq : ∀ k v1 p2, (k, v1) ∈ l1 → aget l2 k = some (.pointer p2) → ∀ W, Below w.heap.size w W → Calls Tryz.prog 27 #[v1, .pointer p2] W fun e w' => e = .returned (.bool (q k)) ∧ Below W.heap.size W w')
    (hp1 : ∀ k v, (k, v) ∈ l1 → ∃ p, v = .pointer p) (hp2 : ∀ k v, aget l2 k = some v → ∃ p, v = .pointer p) :
    Calls Tryz.prog 57 #[.map (some m1), .map (some m2), .func (.func 27) #[] #[]] w fun e w' => e = .returned (.bool (eqKids l1 l2 q)) ∧ Below w.heap.size w w' := by
  have len1 := fun ty => run_len_s (P := Tryz.prog) (w := w) Tryz.underlying83 h1 ty
  have len2 := fun ty => run_len_s (P := Tryz.prog) (w := w) Tryz.underlying83 h2 ty
  have hlt2 := h2.lt
  have hz : ∀ W : World, (zeroValue 52).run Tryz.prog W = .ok (.pointer none) W := fun W => by kernel_rfl
  have e27 := enters27
  by_cases hlen : l1.length = l2.length
  · go_enter Tryz.func57, Tryz.ntmps57
    go_wp2_with (first
      | (at_range; refine wpList_range_s _ rfl _ 83 rfl Tryz.underlying83 rfl h1 ?_; intro w3 hi3 hb3 hs3)
      | go_in)
    go_frame
    have H0 : EqAt w w3 m1 m2 l1 l2 q [] := ⟨hi3, hb3, fun _ _ h => (by cases h), by omega⟩
    clear hi3 hb3 hs3
    go_loopw [7, 8] (fun _ _ wr => ∃ done, EqAt w wr m1 m2 l1 l2 q done) (fun _ _ wr => wr.rangeLeft m1 w.heap.size)
    case atStart => exact ⟨[], H0⟩
    case round =>
      clear H0
      obtain ⟨done, H⟩ := hrel
      have HT := Lib.hid H
      have hit := H.iter
      clear H
      go_wp2_with (first
        | (at_next; refine wpList_next_s _ rfl _ rfl w.heap.size rfl hit ?_ ?_)
        | go_in)
      · intro hall
        go_wp2
        go_ret
        refine ⟨?_, HT.out.below⟩
        have : eqKids l1 l2 q = true := by
          unfold eqKids
          rw [decide_eq_true hlen, Bool.true_and, List.all_eq_true]
          exact fun p hp => HT.out.good p hp (hall p.1 p.2 hp)
        rw [this]; rfl
      · intro nm v W hmem hnd hit2 hg2 hs2 hent
        obtain ⟨p1, rfl⟩ := hp1 nm v hmem
        have hbW : Below w.heap.size w W := HT.out.below.grown hg2 HT.out.below.size (fun k hk => by cases hk; omega)
        have hlk := run_lookup_ok_s (P := Tryz.prog) (w := W) Tryz.underlying83 Tryz.underlying9 (hz W) (h2.of_block (hbW.block _ hlt2)) nm
        have hsz : w.heap.size + 1 ≤ W.heap.size := by rw [hs2]; exact HT.out.sz
        cases hag : aget l2 nm with
        | none =>
          have hbad : eqKids l1 l2 q = false := by
            unfold eqKids
            rw [decide_eq_true hlen, Bool.true_and, List.all_eq_false]
            exact ⟨_, hmem, by simp [hag]⟩
          rw [hag] at hlk
          simp only [Option.getD_none, Option.isSome_none] at hlk
          clear hag
          have HB := Lib.hid hbad
          clear hbad
          go_wp2
          go_ret
          exact ⟨by rw [HB.out]; rfl, hbW⟩
        | some v2 =>
          obtain ⟨p2, rfl⟩ := hp2 nm v2 hag
          rw [hag] at hlk
          simp only [Option.getD_some, Option.isSome_some] at hlk
          have hcall := heq nm _ p2 hmem hag W hbW
          cases hq : q nm with
          | false =>
            have hbad : eqKids l1 l2 q = false := by
              unfold eqKids
              rw [decide_eq_true hlen, Bool.true_and, List.all_eq_false]
              exact ⟨_, hmem, by simp [hq]⟩
            rw [hq] at hcall
            have HB := Lib.hid hbad
            clear hbad hq hag
            go_wp2_with (first | (go_at_fn 27; refine hcall.mono ?_; rintro e w4 ⟨rfl, hb4⟩) | go_in)
            go_ret
            exact ⟨by rw [HB.out]; rfl, hbW.trans (hb4.mono (by omega))⟩
          | true =>
            have hgd : ((aget l2 nm).isSome && q nm) = true := by rw [hag, hq]; rfl
            rw [hq] at hcall
            have HG := Lib.hid hgd
            clear hgd hq hag
            go_wp2_with (first | (go_at_fn 27; refine hcall.mono ?_; rintro e w4 ⟨rfl, hb4⟩) | go_in)
            have hit4 : IterB w4 w.heap.size m1 l1 (nm :: done) := hit2.of_blocks (hb4.block _ (by have := hit2.map.lt; omega)) (hb4.block _ (by omega))
            go_roundw
            case rel => exact ⟨_, ⟨hit4, hbW.trans (hb4.mono (by omega)), fun p hp hd => by
              rcases List.mem_cons.1 hd with h | h
              · rw [h]; exact HG.out
              · exact HT.out.good p hp h, by have := hb4.size; omega⟩⟩
            case measure =>
              have x1 := hit4.left_eq
              have x2 := hit.left_eq
              simp at x1
              omega
  · have hne : ¬ ((l1.length : Int) = (l2.length : Int)) := fun e => hlen (by exact_mod_cast e)
    have hbad : eqKids l1 l2 q = false := by unfold eqKids; rw [decide_eq_false hlen]; rfl
    go_enter Tryz.func57, Tryz.ntmps57
    go_wp2
    go_ret
    exact ⟨by rw [hbad]; rfl, Below.refl _ _⟩
end Go.Proofs.YtmjhflmkgmfjkaaGreatDoor
