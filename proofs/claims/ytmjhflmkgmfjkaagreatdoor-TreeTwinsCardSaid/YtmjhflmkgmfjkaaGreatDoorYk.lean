/- A part of the proof: Y25, Y27, Y28. -/
import Derived.Test.YtmjhflmkgmfjkaaGreatDoorYj
import Derived.Test.YtmjhflmkgmfjkaaGreatDoorYf
import Derived.Test.YtmjhflmkgmfjkaaGreatDoorOa
set_option linter.unusedVariables false
set_option linter.unusedSimpArgs false
namespace Go.Proofs.YtmjhflmkgmfjkaaGreatDoor
open Go.RowKit Go.Proofs.YtmjhflmkgmfjkaaGreatDoorW.PrintWords Go.Proofs.YtmjhflmkgmfjkaaGreatDoorW.PrintMore
open PTreeTwins (S58 S106 S35 S76 S78 z58 z106 z78 k58 k106 k78)
theorem info_78 : (Tryz.prog.info? 78).map (fun i => (i.zero, i.size, i.bytes)) = some (some (.agg #[.string ByteArray.empty, .bool false, .int .i64 0, .int .i64 0, .string ByteArray.empty]), 5, 56) := by kernel_rfl
set_option maxRecDepth 100000 in
set_option maxHeartbeats 4000000 in
theorem rows_calls (w0 : World) (q b : Nat) (r : RS) (h0 : RefAt w0 q b r) {way : Nat → List ByteArray} (hG : Good r.L way) {N : Nat} (hL : Lim r N) (hnm : ∀ i, Live r.L i → ∀ e ∈ named (at_ r.L i).f3, e.f0.size ≤ 100000) (hwz : ∀ i, Live r.L i → (way i).length ≤ 100000) (d : Nat) :
    ∀ (i : Nat) (p : ByteArray) (v : Value) (pre : List S78) (w : World), Live r.L i → (∀ j, Sub r.L way i j → (way j).length < (way i).length + d) → p.size ≤ 100001 * (way i).length → Below w0.heap.size w0 w → k78.R 78 w w0.heap.size (fun _ => True) v pre → pre.length + (walkN d r.L i p).length ≤ 100000 →
    Calls Tryz.prog 59 #[.pointer (some ⟨q, 0, none⟩), .int .i64 i, .string p, v] w fun e w' => ∃ v', e = .returned v' ∧ RowsPost w w' w0.heap.size v v' (pre ++ (walkN d r.L i p).map (rowOf r.L)) := by
  induction d with
  | zero => intro i p v pre w hi hd; exact absurd (hd i (Sub.refl hi)) (by omega)
  | succ d ih =>
    intro i p v pre w hi hd hp hB hv hlen
    rw [walkN_step] at hlen ⊢
    have h := h0.below hB
    have HH := Lib.hid h
    have hil := live_lt hi
    obtain ⟨cap, hbox, hrow⟩ := h.row
    obtain ⟨c0, c1, c2⟩ := hbox.cells
    obtain ⟨v2, v3, e0, e1, e2, e3, hv2, hv3, hfz⟩ := ref_elem hrow i hil
    obtain ⟨A3, k3, rfl, hk3, hC3⟩ := Kd.R_reads hv3
    obtain ⟨Av, cv, rfl, hcv, hCv⟩ := Kd.R_reads hv
    have hl3 := hL.slots i
    have hsm := hL.small
    have hili : (i : Int) < (r.L.length : Int) := by omega
    have hnames := rnames_calls A3 k3 (at_ r.L i).f3 w hC3 hk3 (by omega)
    have HV := Lib.hid hv
    have HC3 := Lib.hid hC3
    clear h hrow hbox hv2 hv3 hv hCv hC3
    have hn3 : (at_ r.L i).f3.length ≤ 2000 := by omega
    generalize hn3e : (at_ r.L i).f3.length = n3 at *
    have Hn3 := Lib.hid hn3e
    clear hn3e
    generalize hnL : r.L.length = nL at *
    have HnL := Lib.hid hnL
    clear hnL
    go_enter Tryz.func59, Tryz.ntmps59
    go_wp2_with (first
      | (go_at_call 50; refine hnames.mono ?_; rintro e w1 ⟨An, cn, rfl, hcn, hRn, hb1⟩))
    have hRn' := hRn
    have hvB : ∀ k, (Value.slice Av pre.length cv).ownBlock = some k → w0.heap.size ≤ k ∧ k < w.heap.size := fun k hk => ⟨((Kd.R_bound HV.out).1 k hk).2.1, ((Kd.R_bound HV.out).1 k hk).2.2.1⟩
    have HRn := Lib.hid hRn
    have HB1 := Lib.hid hb1
    have HB := Lib.hid hB
    have hnl : (namesOf (at_ r.L i).f3).length = (named (at_ r.L i).f3).length := namesOf_length _
    have HNL := Lib.hid hnl
    clear hRn hRn' hb1 c0 c1 c2 e0 e1 e2 e3 hnl
    go_loopw [3, 10] (fun a i' wr => ∃ (j : Nat) (Aj : Option Addr) (cj : Nat) (lj : List S78), j ≤ (named (at_ r.L i).f3).length ∧ i' = .int .i64 j ∧ a = .slice Aj lj.length cj ∧ lj = pre ++ (((namesOf (at_ r.L i).f3).take j).flatMap (stepN d r.L i p)).map (rowOf r.L) ∧ RowsPost w1 wr w0.heap.size (.slice Av pre.length cv) a lj) (fun _ i' _ => (named (at_ r.L i).f3).length - (intOf i').toNat)
    case atStart => exact ⟨0, Av, cv, pre, Nat.zero_le _, rfl, rfl, by simp, ⟨Kd.R_below HV.out HB1.out, Keeps.refl _ _, .inl rfl⟩⟩
    case round =>
      obtain ⟨j, Aj, cj, lj, hj, rfl, rfl, hlj, hP⟩ := hrel
      by_cases hlt : j < (named (at_ r.L i).f3).length
      · have hjl : j < (namesOf (at_ r.L i).f3).length := by rw [HNL.out]; exact hlt
        obtain ⟨nm, hnmE⟩ : ∃ nm, nm = (namesOf (at_ r.L i).f3)[j] := ⟨_, rfl⟩
        have hmem : nm ∈ (named (at_ r.L i).f3).map (·.f0) := by
          rw [← (sortB_perm _).mem_iff, ← namesOf_eq, hnmE]; exact List.getElem_mem hjl
        obtain ⟨ee, hee, hee0⟩ := List.mem_map.1 hmem
        have hwsome : (whose (at_ r.L i).f3 nm).isSome := by
          cases hw : whose (at_ r.L i).f3 nm with
          | some _ => rfl
          | none =>
            exfalso
            unfold whose at hw
            rw [Option.map_eq_none_iff, List.find?_eq_none] at hw
            exact hw ee hee (by simpa using hee0)
        obtain ⟨k, hw⟩ := Option.isSome_iff_exists.1 hwsome
        have hnmne : nm ≠ ByteArray.empty := by rw [← hee0]; exact (named_mem.1 hee).2
        have hnmsz : nm.size ≤ 100000 := by rw [← hee0]; exact hnm i hi ee hee
        obtain ⟨hkl, hkw, hki, _⟩ := kid_ne hG hi hw
        obtain ⟨jj, hjjl, hatx, -⟩ := whose_atS hw hnmne
        -- the names
        obtain ⟨gn, _, eA, hgn1, hgn2, cellsn, hgn⟩ := Kd.R_form HRn.out (by rw [hnmE] at hnmne; omega)
        injection eA with eA1 eA2 eA3
        subst eA1
        subst eA3
        clear eA2
        have hgn0 : w.heap.size ≤ gn := hgn1
        have hgnl : gn < w1.heap.size := (Array.getElem?_eq_some_iff.1 hgn).1
        have hCn := (Kd.R_reads' HRn.out).2.2
        have hCn2 := C_string_block hCn (hP.keep.block gn hgnl (fun e => by have := (hvB gn e).2; omega))
        have hBr : Below w0.heap.size w0 wr := (HB.out.trans (HB1.out.mono HB.out.size)).trans (hP.keep.below (Nat.le_trans HB.out.size HB1.out.size) (fun k hk => (hvB k hk).1))
        have hRr := h0.below hBr
        obtain ⟨cap, hbox, hrow⟩ := hRr.row
        obtain ⟨c0, c1, c2⟩ := hbox.cells
        obtain ⟨v2, v3, e0, e1, e2, e3, hv2, hv3, hfz⟩ := ref_elem hrow i (by rw [HnL.out]; exact hil)
        obtain ⟨A3', k3', rfl, hk3', hC3'⟩ := Kd.R_reads hv3
        obtain ⟨cap0, hbox0, hrow0⟩ := h0.row
        obtain ⟨c00, -, -⟩ := hbox0.cells
        obtain ⟨u2, u3, -, d1, d2, -, hu2, -, -⟩ := ref_elem hrow0 k (live_lt hkl)
        obtain ⟨A2, k2, rfl, hk2, hC2⟩ := Kd.R_reads hu2
        have hqlt := hbox0.lt
        have hblt := h0.row_lt
        obtain ⟨row, hrw⟩ : ∃ row, row = rowOf r.L (joinP p nm, k) := ⟨_, rfl⟩
        have I7 : ∀ W, Below w0.heap.size w0 W → Calls Tryz.prog 88 #[.pointer (some ⟨q, 0, none⟩), .int .i64 k] W fun e w' => e = .returned (.agg #[.bool row.f1.f0, .int .i64 row.f1.f1, .int .i64 row.f1.f2]) ∧ Below W.heap.size W w' := fun W hW => by
          have := rinfo_calls W q b r (h0.below hW) hL k (live_lt hkl)
          rw [hrw]; exact this
        have S7 : ∀ W, Below w0.heap.size w0 W → W.cell? ⟨q, 0, none⟩ = some (.slice (some ⟨b, 0, none⟩) r.L.length cap0) ∧ W.cell? ⟨b, k * 4 + 2, none⟩ = some (.slice A2 (at_ r.L k).f2.length k2) ∧ W.cell? ⟨b, k * 4 + 1, none⟩ = some (.bool row.f1.f0) ∧ (convert 33 9 (.slice A2 (at_ r.L k).f2.length k2)).run Tryz.prog W = .ok (.string row.f2) W := fun W hW => by
          refine ⟨(hW.cell (p := ⟨q, 0, none⟩) hqlt).trans c00, (hW.cell (p := ⟨b, k * 4 + 2, none⟩) hblt).trans d2, ?_, ?_⟩
          · rw [hrw]; exact (hW.cell (p := ⟨b, k * 4 + 1, none⟩) hblt).trans d1
          · rw [hrw]; exact Kd.C_string Tryz.underlying33 Tryz.underlying5 Tryz.underlying9 (Kd.C_below hC2 hW)
        have hrf0 : row.f0 = p ++ ⟨#[47]⟩ ++ nm := by rw [hrw]; rfl
        have hdir : row.f1.f0 = (at_ r.L k).f1 := by rw [hrw]; rfl
        have HI7 := Lib.hid I7
        have HS7 := Lib.hid S7
        have HRW := Lib.hid hrw
        have HDIR := Lib.hid hdir
        have HBR := Lib.hid hBr
        clear I7 S7 hrw hdir c00 d1 d2 hbox0 hrow0
        have hat := fun m => rat_calls A3' k3' (at_ r.L i).f3 nm (wr.drewN m) (Kd.C_drewN hC3' m) hk3' (by rw [Hn3.out]; omega)
        simp only [atI_some hatx] at hat
        obtain ⟨ad3, hA3, -, sl1⟩ := PTreeTwins.at_T106 hC3' (jj : Int) (by omega) (by omega)
        rw [rd106 _ jj hjjl, Int.toNat_natCast] at sl1
        subst hA3
        have hx1 : (((at_ r.L i).f3)[jj]).f1 = (k : Int) + 1 := by
          have hwh := whose_at (at_ r.L i).f3 nm
          rw [hatx, hw] at hwh
          have hgd : (at_ r.L i).f3.getD jj z106 = ((at_ r.L i).f3)[jj] := by rw [List.getD_eq_getElem?_getD, List.getElem?_eq_getElem hjjl]; rfl
          simp only [Option.map_some, hgd, Option.some.injEq] at hwh
          obtain ⟨_, hjn, hne⟩ := atS_some hatx
          have hmem : ((at_ r.L i).f3)[jj] ∈ named (at_ r.L i).f3 := named_mem.2 ⟨List.getElem_mem hjjl, by rw [hjn]; exact hne⟩
          have := (hG.kid i hi _ hmem).1
          rw [hwh]; unfold eix; omega
        obtain ⟨x1, hx1e⟩ : ∃ x1 : Int, x1 = (k : Int) + 1 := ⟨_, rfl⟩
        rw [hx1, ← hx1e] at sl1
        have hcn1 : wr.cell? ⟨gn, j, none⟩ = some (.string nm) := by
          obtain ⟨_, e, hcell⟩ := Kd.at_string hCn2 (j : Int) (by omega) (by omega)
          cases e
          have hrd : rdOf ByteArray.empty (namesOf (at_ r.L i).f3) (j : Int) = nm := by rw [hnmE]; simp [rdOf, hjl]
          rw [hrd, Int.toNat_natCast] at hcell
          have hadd : (⟨gn, 0, none⟩ : Addr).add j = ⟨gn, j, none⟩ := by unfold Addr.add; split <;> simp_all
          rw [← hadd]; exact hcell
        have hz1 : (⟨#[47]⟩ : ByteArray).size = 1 := rfl
        have hwi := hwz i hi
        have a1 : ∀ W : World, (Op.stringOp .add p ⟨#[47]⟩).run Tryz.prog W = .ok (.string (p ++ ⟨#[47]⟩)) W := fun W => run_string_add_sum W _ _ (by rw [hz1]; omega)
        have a2 : ∀ W : World, (Op.stringOp .add (p ++ ⟨#[47]⟩) nm).run Tryz.prog W = .ok (.string row.f0) W := fun W => by rw [hrf0]; exact run_string_add_sum W _ _ (by rw [ByteArray.size_append, hz1]; omega)
        have hklt := live_lt hkl
        rw [HnL.out] at c0 hklt HS7
        have hkli : (k : Int) < (nL : Int) := by omega
        have hjli : (j : Int) < ((named (at_ r.L i).f3).length : Int) := by omega
        have hjji : (jj : Int) < ((at_ r.L i).f3.length : Int) := by omega
        have hnf : (named (at_ r.L i).f3).length ≤ (at_ r.L i).f3.length := List.length_filter_le _ _
        have HP := Lib.hid hP
        have HLJ := Lib.hid hlj
        have HC2 := Lib.hid hC2
        have HRr := Lib.hid hRr
        have hF : stepN d r.L i p nm = (joinP p nm, k) :: walkN d r.L k (joinP p nm) := by unfold stepN; rw [hw]
        have htk : ((namesOf (at_ r.L i).f3).take (j + 1)).flatMap (stepN d r.L i p) = ((namesOf (at_ r.L i).f3).take j).flatMap (stepN d r.L i p) ++ (joinP p nm, k) :: walkN d r.L k (joinP p nm) := by
          rw [List.take_succ_eq_append_getElem hjl, ← hnmE, List.flatMap_append, ← hF]
          simp
        have hlen2 : lj.length + 1 + (walkN d r.L k (joinP p nm)).length ≤ 100000 := by
          have h1 : ((namesOf (at_ r.L i).f3).flatMap (stepN d r.L i p)).length = (((namesOf (at_ r.L i).f3).take (j + 1)).flatMap (stepN d r.L i p)).length + (((namesOf (at_ r.L i).f3).drop (j + 1)).flatMap (stepN d r.L i p)).length := by
            rw [← List.length_append, ← List.flatMap_append, List.take_append_drop]
          rw [htk] at h1
          rw [hlj]
          simp only [List.length_append, List.length_map, List.length_cons] at h1 ⊢
          omega
        have HTK := Lib.hid htk
        have HLEN := Lib.hid hlen2
        clear hF htk hlen2
        clear hP hlj hC2 hRr hrow hbox hv2 hv3 hu2 hC3' hBr hrf0 hqlt hblt hk2 hCn hCn2 hx1 hw hwsome hmem hee hatx hlen
        rw [Hn3.out] at e3 hat hjji hnf
        generalize hnn : (named (at_ r.L i).f3).length = nn at *
        have hsum : IntKind.i64.wrap (x1 - 1) = (k : Int) := by rw [hx1e, show (k : Int) + 1 - 1 = k by omega]; exact IntWalk.i64_in _ (by have := hL.things; rw [HnL.out] at this; omega)
        clear hx1e
        have IH := Lib.hid ih
        have HNM := Lib.hid hnmE
        have HA1 := Lib.hid a1
        have HA2 := Lib.hid a2
        have HD := Lib.hid hd
        have HNMS := Lib.hid hnm
        have HWZ := Lib.hid hwz
        clear ih hnmE hee0 hnm hwz hd a1 a2 hnames
        go_wp2
        go_region_held3 (fun W' => W'.cell? ⟨q, 0, none⟩ = some (.slice (some ⟨b, 0, none⟩) nL cap) ∧ W'.cell? ⟨b, i * 4 + 3, none⟩ = some (.slice (some ad3) n3 k3') ∧ W'.cell? ⟨gn, j, none⟩ = some (.string nm) ∧ W'.cell? ⟨(ad3.add (jj * 2)).block, (ad3.add (jj * 2)).off + 1, none⟩ = some (.int .i64 x1))
          (first | go_keep | assumption)
          (first | (go_at_call 44; refine (hat _).mono ?_; rintro e w2 ⟨rfl, m2, rfl⟩))
        all_goals
          have a1 := HA1.out
          have a2 := HA2.out
          clear hsum
          go_wp2
          have HPW := Lib.hid (HP.out.drewN (1 + m2))
          have HBW := Lib.hid (pw_below_drewN HBR.out (1 + m2))
          obtain ⟨s0, s1, s2, s3⟩ := HS7.out _ HBW.out
          clear HP HBR a1 a2 HA1 HA2 c0 c1 c2 e0 e1 e2 e3 hcn1 sl1 hat hfz HC2 HRr HH
          generalize wr.drewN (1 + m2) = W at *
          go_region_held3 (fun W' => W'.cell? ⟨q, 0, none⟩ = some (.slice (some ⟨b, 0, none⟩) nL cap0) ∧ W'.cell? ⟨b, k * 4 + 2, none⟩ = some (.slice A2 (at_ r.L k).f2.length k2) ∧ W'.cell? ⟨b, k * 4 + 1, none⟩ = some (.bool row.f1.f0) ∧ (convert 33 9 (.slice A2 (at_ r.L k).f2.length k2)).run Tryz.prog W' = .ok (.string row.f2) W')
            (first | (refine HS7.out _ ?_; first | with_reducible exact hB4 | with_reducible exact hB3 | with_reducible exact below_alloc hB3 _ | with_reducible exact HBW.out | with_reducible exact below_drew1 HBW.out))
            (first
              | (go_at_call 88; refine (HI7.out _ (by repeat (first | (with_reducible first | exact HBW.out | apply below_alloc | apply pw_below_drewN | apply below_drew1) | exact HBW.out))).mono ?_; rintro e w3 ⟨rfl, hb3⟩
                 have hB3 : Below w0.heap.size w0 w3 := below_step (by repeat (first | (with_reducible first | exact HBW.out | apply below_alloc | apply pw_below_drewN | apply below_drew1) | exact HBW.out)) hb3)
              | (refine Kd.R_append_step k78 (w0 := w0) w0.heap.size ?hg _ _ 73 78 (.agg #[.string ByteArray.empty, .bool false, .int .i64 0, .int .i64 0, .string ByteArray.empty]) 56 rfl Tryz.underlying73 info_78 rfl (by decide) (by decide) (.slice Aj lj.length cj) lj row [.string row.f0, .bool row.f1.f0, .int .i64 row.f1.f1, .int .i64 row.f1.f2, .string row.f2] (fun _ => True) (fun _ => False) rfl rfl ?aP (fun _ hk => hk.elim) (fun _ _ => trivial) ?aO ?aB ?aS ?aL ?_
                 (case hg => rfl)
                 (case aP => exact PTreeTwins.k78_mkM _ _ _ row)
                 (case aO => exact Kd.R_below (by first | exact HPW.out.row | exact Kd.R_drew HPW.out.row) hb3)
                 (case aB => exact (by repeat (first | (with_reducible first | exact hB3 | apply below_alloc | apply pw_below_drewN | apply below_drew1) | exact hB3)))
                 (case aS => exact below_size hB3)
                 (case aL => have := HLEN.out; omega)
                 intro v1 w4 ho1 hB4 hg1 ha1))
          all_goals
            have HP4 : RowsPost w1 w4 w0.heap.size (.slice Av pre.length cv) v1 (lj ++ [row]) := HPW.out.trans (RowsPost.appended (w1 := w3) (by have h := hb3; exact ⟨h.os, h.tape, h.output, h.size, h.block⟩) hg1 ho1 ha1)
            have HQ4 := Lib.hid HP4
            have HO4 := Lib.hid ho1
            obtain ⟨A4, c4, rfl⟩ := Kd.R_slice ho1
            have HB4 := Lib.hid hB4
            have t1 := (HS7.out w4 hB4).1
            have t2 := (HS7.out w4 hB4).2.2.1
            clear HP4 ho1 hg1 ha1 hB4 hB3 hb3 s0 s1 s2 s3
            cases hdk : row.f1.f0
            · rw [hdk] at t2
              have hw0 : walkN d r.L k (joinP p nm) = [] := walkN_file hG d hkl (by rw [← HDIR.out]; exact hdk) _
              have HW0 := Lib.hid hw0
              clear hw0
              go_wp2
              go_roundw
              case rel =>
                refine ⟨j + 1, A4, c4, lj ++ [row], by omega, by simp, by simp, ?_, HQ4.out⟩
                rw [HTK.out, HW0.out, HLJ.out, HRW.out]
                simp
              case measure => simp [intOf]; omega
            · rw [hdk] at t2
              obtain ⟨lr, hlr⟩ : ∃ lr, (lj ++ [row]).length = lr := ⟨_, rfl⟩
              rw [hlr]
              have HLR := Lib.hid hlr
              clear hlr
              have hih : Calls Tryz.prog 59 #[.pointer (some ⟨q, 0, none⟩), .int .i64 k, .string row.f0, .slice A4 lr c4] w4 fun e w' => ∃ v', e = .returned v' ∧ RowsPost w4 w' w0.heap.size (.slice A4 lr c4) v' (lj ++ [row] ++ (walkN d r.L k row.f0).map (rowOf r.L)) := by
                have e0 : row.f0 = joinP p nm := by rw [HRW.out]; rfl
                refine IH.out k row.f0 _ (lj ++ [row]) w4 hkl (fun x hx => ?_) ?_ HB4.out ?_ ?_
                · have h1 := HD.out x ⟨hx.1, ((List.prefix_append (way i) [nm]).trans (by rw [← hkw]; exact List.prefix_refl _)).trans hx.2⟩
                  rw [hkw]
                  simp only [List.length_append, List.length_singleton]
                  omega
                · rw [e0, hkw]
                  unfold joinP
                  rw [ByteArray.size_append, ByteArray.size_append, hz1]
                  simp only [List.length_append, List.length_singleton]
                  omega
                · rw [← HLR.out]
                  exact HO4.out
                · have := HLEN.out
                  rw [e0]
                  simp only [List.length_append, List.length_singleton]
                  omega
              go_wp2_with (first | (go_at_call 59; refine hih.mono ?_; rintro e w5 ⟨v5, rfl, hP5⟩))
              go_roundw
              case rel =>
                obtain ⟨A5, c5, e5⟩ := Kd.R_slice hP5.row
                have hQ5 := HQ4.out
                rw [← HLR.out] at hP5
                refine ⟨j + 1, A5, c5, _, by omega, by simp, e5, ?_, hQ5.trans hP5⟩
                rw [HTK.out, HLJ.out, HRW.out]
                have e0 : (rowOf r.L (joinP p nm, k)).f0 = joinP p nm := rfl
                rw [e0]
                simp
              case measure => simp [intOf]; omega
      · have hjd : ¬ (j : Int) < ((named (at_ r.L i).f3).length : Int) := by omega
        have HP := Lib.hid hP
        have HLJ := Lib.hid hlj
        clear hP hlj
        generalize hnn : (named (at_ r.L i).f3).length = nn at *
        go_wp2
        go_ret
        refine ⟨_, rfl, RowsPost.from_ HB1.out ?_⟩
        have e := HLJ.out
        rw [List.take_of_length_le (by rw [HNL.out]; omega)] at e
        rw [← e]
        exact HP.out
end Go.Proofs.YtmjhflmkgmfjkaaGreatDoor
namespace Go.Proofs.YtmjhflmkgmfjkaaGreatDoor
open Go.RowKit Go.Proofs.YtmjhflmkgmfjkaaGreatDoorW.PrintWords Go.Proofs.YtmjhflmkgmfjkaaGreatDoorW.PrintMore
open PTreeTwins (S58 S106 S35 S76 S78 z58 z106 z78 k58 k106 k78)
theorem eqA_info (d : Nat) (w : World) (x0 y0 : Bool) (x1 y1 : Int) (x2 y2 : Int) :
    (Op.equalIn (d + 2) 76 (.agg #[.bool x0, .int .i64 x1, .int .i64 x2]) (.agg #[.bool y0, .int .i64 y1, .int .i64 y2])).run Tryz.prog w = .ok (x0 == y0 && (x1 == y1 && (x2 == y2))) w := by
  refine eqA_of Tryz.underlying76 (by kernel_rfl) ?_
  refine eqf_cons (by rfl) (by go_simp; rfl) (by go_simp; rfl) (by go_simp) ?_
  refine eqf_cons (by rfl) (by go_simp; rfl) (by go_simp; rfl) (by go_simp) ?_
  exact eqf_last (by rfl) (by go_simp; rfl) (by go_simp; rfl) (by go_simp)
theorem eqA_row (d : Nat) (w : World) (x0 y0 : ByteArray) (x1 y1 : Bool) (x2 y2 : Int) (x3 y3 : Int) (x4 y4 : ByteArray) :
    (Op.equalIn (d + 3) 78 (.agg #[.string x0, .bool x1, .int .i64 x2, .int .i64 x3, .string x4]) (.agg #[.string y0, .bool y1, .int .i64 y2, .int .i64 y3, .string y4])).run Tryz.prog w = .ok (x0.toList == y0.toList && ((x1 == y1 && (x2 == y2 && (x3 == y3))) && (x4.toList == y4.toList))) w := by
  refine eqA_of Tryz.underlying78 (by kernel_rfl) ?_
  refine eqf_cons (by rfl) (by go_simp; rfl) (by go_simp; rfl) (by go_simp) ?_
  refine eqf_cons (by rfl) (by go_simp) (by go_simp) (eqA_info (d + 0) w _ _ _ _ _ _) ?_
  exact eqf_last (by rfl) (by go_simp; rfl) (by go_simp; rfl) (by go_simp)
set_option maxRecDepth 100000 in
set_option maxHeartbeats 1000000 in
theorem rtreeWalk_calls (w : World) (q b : Nat) (r : RS) (h : RefAt w q b r) {way : Nat → List ByteArray} (hG : Good r.L way) {N : Nat} (hL : Lim r N) (hnm : ∀ i, Live r.L i → ∀ e ∈ named (at_ r.L i).f3, e.f0.size ≤ 100000) (hwz : ∀ i, Live r.L i → (way i).length ≤ 100000) (d : Nat) (hd : ∀ j, Live r.L j → (way j).length < d) :
    Calls Tryz.prog 29 #[.pointer (some ⟨q, 0, none⟩)] w fun e w' => ∃ A c, e = .returned (.slice A (rowsN d r.L 0 ByteArray.empty).length c) ∧ (rowsN d r.L 0 ByteArray.empty).length ≤ c ∧ Kd.C k78 w' A (rowsN d r.L 0 ByteArray.empty).length (rowsN d r.L 0 ByteArray.empty) ∧ (rowsN d r.L 0 ByteArray.empty).length ≤ 2001 ∧ Below w.heap.size w w' := by
  have hlen : (walkN d r.L 0 ByteArray.empty).length ≤ 2001 := by
    have := walkN_length hG d 0 ByteArray.empty hG.root.1
    have := hL.things
    have := hL.small
    omega
  have hc := rows_calls w q b r h hG hL hnm hwz d 0 ByteArray.empty (.slice none 0 0) [] w hG.root.1 (fun j hj => by have := hd j hj.1; omega) (Nat.zero_le _) (Below.refl _ w) (Kd.R_nil _ _ _ _ _) (by simp; omega)
  go_enter Tryz.func29, Tryz.ntmps29
  go_wp2_with (first | (go_at_call 59; refine hc.mono ?_; rintro e w1 ⟨v', rfl, hP⟩))
  go_ret
  have hrow := hP.row
  simp only [List.nil_append] at hrow
  obtain ⟨A, c, rfl, hcl, hC⟩ := Kd.R_reads hrow
  exact ⟨A, c, rfl, hcl, hC, by unfold rowsN; simpa using hlen, hP.keep.below (Nat.le_refl _) (fun k hk => by simp [Value.ownBlock] at hk)⟩
/-- the row that stands at a place -/
theorem rd78 (X : List S78) (j : Nat) (h : j < X.length) : PTreeTwins.rd_T78 X (j : Int) = X[j] := by
  unfold PTreeTwins.rd_T78
  rw [Int.toNat_natCast, List.getD_eq_getElem?_getD, List.getElem?_eq_getElem h]
  rfl
def eqRow (x y : S78) : Bool := x.f0.toList == y.f0.toList && ((x.f1.f0 == y.f1.f0 && (x.f1.f1 == y.f1.f1 && (x.f1.f2 == y.f1.f2))) && (x.f2.toList == y.f2.toList))
theorem ba_toList_inj {x y : ByteArray} (h : x.toList = y.toList) : x = y := by
  rw [ByteArray.toList_eq, ByteArray.toList_eq] at h
  exact ByteArray.ext (Array.toList_inj.1 h)
theorem eqRow_iff (x y : S78) : eqRow x y = true ↔ x = y := by
  unfold eqRow
  simp only [Bool.and_eq_true, beq_iff_eq]
  constructor
  · rintro ⟨h1, ⟨h2, h3, h4⟩, h5⟩
    obtain ⟨x0, ⟨a, b, c⟩, x2⟩ := x
    obtain ⟨y0, ⟨a', b', c'⟩, y2⟩ := y
    simp only at h1 h2 h3 h4 h5
    rw [ba_toList_inj h1, h2, h3, h4, ba_toList_inj h5]
  · rintro rfl; exact ⟨rfl, ⟨rfl, rfl, rfl⟩, rfl⟩
end Go.Proofs.YtmjhflmkgmfjkaaGreatDoor
namespace Go.Proofs.YtmjhflmkgmfjkaaGreatDoor
open Go.RowKit Go.Proofs.YtmjhflmkgmfjkaaGreatDoorW.PrintWords Go.Proofs.YtmjhflmkgmfjkaaGreatDoorW.PrintMore
open PTreeTwins (S58 S106 S35 S76 S78 z58 z106 z78 k58 k106 k78)
attribute [local go_sem high] eqA_info eqA_row
def WalkOf (q : Nat) (X : List S78) (W : World) : Prop := Calls Tryz.prog 29 #[.pointer (some ⟨q, 0, none⟩)] W fun e w' => ∃ A c, e = .returned (.slice A X.length c) ∧ X.length ≤ c ∧ Kd.C k78 w' A X.length X ∧ X.length ≤ 2001 ∧ Below W.heap.size W w'
theorem row_cells {w : World} {A : Option Addr} {X : List S78} (h : Kd.C k78 w A X.length X) {j : Nat} (hj : j < X.length) : ∃ ad, A = some ad ∧ ∀ W : World, (∃ n, W = w.drewN n) → W.cell? (ad.add (j * 5)) = some (.string (X[j]).f0) ∧ W.cell? ⟨(ad.add (j * 5)).block, (ad.add (j * 5)).off + 1, none⟩ = some (.bool (X[j]).f1.f0) ∧ W.cell? ⟨(ad.add (j * 5)).block, (ad.add (j * 5)).off + 2, none⟩ = some (.int .i64 (X[j]).f1.f1) ∧ W.cell? ⟨(ad.add (j * 5)).block, (ad.add (j * 5)).off + 3, none⟩ = some (.int .i64 (X[j]).f1.f2) ∧ W.cell? ⟨(ad.add (j * 5)).block, (ad.add (j * 5)).off + 4, none⟩ = some (.string (X[j]).f2) := by
  obtain ⟨ad, e, h0, h1, h2, h3, h4⟩ := PTreeTwins.at_T78 h (j : Int) (by omega) (by omega)
  rw [rd78 X j hj, Int.toNat_natCast] at *
  refine ⟨ad, e, ?_⟩
  rintro W ⟨n, rfl⟩
  exact ⟨h0, h1, h2, h3, h4⟩
set_option maxRecDepth 100000 in
set_option maxHeartbeats 2000000 in
theorem same_rows_calls (w : World) (q q2 : Nat) (X Y : List S78) (hx : ∀ W, Below w.heap.size w W → WalkOf q X W) (hy : ∀ W, Below w.heap.size w W → WalkOf q2 Y W) :
    Calls Tryz.prog 15 #[.pointer (some ⟨q, 0, none⟩), .pointer (some ⟨q2, 0, none⟩)] w fun e w' => ∃ bb : Bool, e = .returned (.bool bb) ∧ (bb = true ↔ X = Y) ∧ Below w.heap.size w w' := by
  have hx0 := hx w (Below.refl _ w)
  unfold WalkOf at hx0
  go_enter Tryz.func15, Tryz.ntmps15
  by_cases hl : X.length = Y.length
  · have hl' : (X.length : Int) = (Y.length : Int) := by omega
    go_wp2_with (first
      | (go_at_call 29; with_reducible refine hx0.mono ?_; rintro e w1 ⟨A, c, rfl, hc, hC, hX, hb1⟩; have hy1 := hy w1 hb1; unfold WalkOf at hy1)
      | (go_at_call 29; with_reducible refine hy1.mono ?_; rintro e w2 ⟨A2, c2, rfl, hc2, hC2, hY, hb2⟩))
    have HC1 := Lib.hid (Kd.C_below hC hb2)
    have HC2 := Lib.hid hC2
    have HB := Lib.hid (below_step hb1 hb2)
    clear hx0 hy1 hC hC2 hb1 hb2 hx hy
    go_loopw [7] (fun i wr => ∃ j : Nat, j ≤ X.length ∧ i = .int .i64 j ∧ X.take j = Y.take j ∧ ∃ n, wr = w2.drewN n) (fun i _ => X.length - (intOf i).toNat)
    case atStart => exact ⟨0, Nat.zero_le _, rfl, by simp, 0, rfl⟩
    case round =>
      obtain ⟨j, hj, rfl, ht, n, hn⟩ := hrel
      by_cases hlt : j < X.length
      · have hlt2 : j < Y.length := by omega
        obtain ⟨ad, rfl, hcx⟩ := row_cells HC1.out hlt
        obtain ⟨ad2, rfl, hcy⟩ := row_cells HC2.out hlt2
        obtain ⟨x, hxe⟩ : ∃ x, x = X[j] := ⟨_, rfl⟩
        obtain ⟨y, hye⟩ : ∃ y, y = Y[j] := ⟨_, rfl⟩
        rw [← hxe] at hcx
        rw [← hye] at hcy
        obtain ⟨x0, x1, x2, x3, x4⟩ := hcx wr ⟨n, hn⟩
        obtain ⟨y0, y1, y2, y3, y4⟩ := hcy wr ⟨n, hn⟩
        have hxi : (j : Int) < (X.length : Int) := by omega
        have hyi : (j : Int) < (Y.length : Int) := by omega
        have HT := Lib.hid ht
        have HXE := Lib.hid hxe
        have HYE := Lib.hid hye
        have HN := Lib.hid hn
        clear ht hxe hye hn hcx hcy
        have hiff := eqRow_iff x y
        cases hq : eqRow x y with
        | false =>
          have hne : X ≠ Y := fun e => by
            have := HXE.out.trans ((List.getElem_of_eq e hlt).trans HYE.out.symm)
            rw [hq] at hiff
            exact absurd (hiff.2 this) (by decide)
          have HNE := Lib.hid hne
          clear hne hiff
          have hq2 : (x.f0.toList == y.f0.toList && ((x.f1.f0 == y.f1.f0 && (x.f1.f1 == y.f1.f1 && (x.f1.f2 == y.f1.f2))) && (x.f2.toList == y.f2.toList))) = false := hq
          go_wp2
          go_quiet (fail)
          go_wp2
          go_ret
          refine ⟨false, rfl, ⟨fun h => (by cases h), fun h => absurd h HNE.out⟩, ?_⟩
          rw [HN.out]
          exact pw_below_drewN (pw_below_drewN HB.out _) _
        | true =>
          have hxy : X.take (j + 1) = Y.take (j + 1) := by
            rw [List.take_succ_eq_append_getElem hlt, List.take_succ_eq_append_getElem hlt2, HT.out, ← HXE.out, ← HYE.out, hiff.1 hq]
          have HXY := Lib.hid hxy
          clear hxy hiff
          have hq2 : (x.f0.toList == y.f0.toList && ((x.f1.f0 == y.f1.f0 && (x.f1.f1 == y.f1.f1 && (x.f1.f2 == y.f1.f2))) && (x.f2.toList == y.f2.toList))) = true := hq
          go_wp2
          go_quiet (fail)
          go_wp2
          go_roundw
          case rel => exact ⟨j + 1, by omega, by simp, HXY.out, n + nq, by rw [HN.out, World.drewN_drewN]⟩
          case measure => simp [intOf]; omega
      · have hjl : j = X.length := by omega
        have hxy : X = Y := by
          rw [hjl, List.take_length, hl, List.take_length] at ht
          exact ht
        have HXY := Lib.hid hxy
        have HN := Lib.hid hn
        clear hxy ht hn
        go_wp2
        go_ret
        refine ⟨true, rfl, ⟨fun _ => HXY.out, fun _ => rfl⟩, ?_⟩
        rw [HN.out]
        exact pw_below_drewN HB.out _
  · have hl' : ¬ (X.length : Int) = (Y.length : Int) := by omega
    go_wp2_with (first
      | (go_at_call 29; with_reducible refine hx0.mono ?_; rintro e w1 ⟨A, c, rfl, hc, hC, hX, hb1⟩; have hy1 := hy w1 hb1; unfold WalkOf at hy1)
      | (go_at_call 29; with_reducible refine hy1.mono ?_; rintro e w2 ⟨A2, c2, rfl, hc2, hC2, hY, hb2⟩))
    go_ret
    exact ⟨false, rfl, ⟨fun h => (by cases h), fun h => absurd (congrArg List.length h) hl⟩, below_step hb1 hb2⟩
end Go.Proofs.YtmjhflmkgmfjkaaGreatDoor
