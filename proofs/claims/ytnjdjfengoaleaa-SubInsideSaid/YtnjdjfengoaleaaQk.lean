/- Texts of this claim, merged by a program of this session; what the claim does not use is left out. -/
import Derived.Deep.RegionHeld3
import Derived.Test.YtnjdjfengoaleaaQj
namespace Go.Proofs.Ytnjdjfengoaleaa.MSub
open Go.RowKit Go.Proofs.YtnjdjfengoaleaaW.PrintWords Go.Proofs.YtnjdjfengoaleaaW.PrintLast Go.Proofs.YtnjdjfengoaleaaW.PrintMore
open Go.Proofs.Ytnjdjfengoaleaa.Relv
set_option linter.unusedVariables false
set_option linter.unusedSimpArgs false
theorem infoS26 : (Try.prog.info? 26).map (·.size) = some 3 := by kernel_rfl
set_option maxHeartbeats 4000000 in
set_option maxRecDepth 100000 in
theorem level_calls0 (w : World) (A0 A1 A2 : Option Addr) (c0 c1 c2 : Nat) (V : List S42) (F : List (List Int)) (X : List S53) (hV : Kd.C k42 w A0 V.length V) (hF : Kd.C (Kd.slice 3 (Kd.int .i64)) w A1 F.length F) (hX : Kd.C k53 w A2 X.length X)
    (hs : small F = true) (hv : V.length ≤ 1048576) :
    Calls Try.prog 14 #[.agg #[.slice A0 V.length c0, .slice A1 F.length c1, .slice A2 X.length c2]] w fun e w' => ∃ v0 v1 v2 : Value, ∃ r1 r2 r3 r4, sub_Level.f V F X = some (r1, r2, r3, r4) ∧
      e = .returned (.tuple #[.agg #[v0, v1, v2], .int .i64 r4]) ∧ Kd.R k42 42 w' w.heap.size (fun _ => True) v0 r1 ∧ Kd.R (Kd.slice 3 (Kd.int .i64)) 29 w' w.heap.size (fun _ => True) v1 r2 ∧ Kd.R k53 53 w' w.heap.size (fun _ => True) v2 r3 ∧ Below w.heap.size w w' := by
  have HV := Aside0.mk hV
  have HF := Aside0.mk hF
  have HX := Aside0.mk hX
  have HS := Aside0.mk hs
  clear hV hF hX hs
  have e1 : Below w.heap.size w ((w.alloc (.cells #[.slice A0 V.length c0, .slice A1 F.length c1, .slice A2 X.length c2] 26)).alloc (.cells #[.slice none 0 0, .slice none 0 0, .slice none 0 0] 26)) := below_alloc (below_alloc (Below.refl _ w) _) _
  have h1 : ((w.alloc (.cells #[.slice A0 V.length c0, .slice A1 F.length c1, .slice A2 X.length c2] 26)).alloc (.cells #[.slice none 0 0, .slice none 0 0, .slice none 0 0] 26)).heap[w.heap.size]? = some (.cells #[.slice A0 V.length c0, .slice A1 F.length c1, .slice A2 X.length c2] 26 (0, 0)) := by
    rw [Below.heap_alloc _ _ _ (by simp)]
    exact heap_alloc_new _ _
  have h2 : ((w.alloc (.cells #[.slice A0 V.length c0, .slice A1 F.length c1, .slice A2 X.length c2] 26)).alloc (.cells #[.slice none 0 0, .slice none 0 0, .slice none 0 0] 26)).heap[w.heap.size + 1]? = some (.cells #[.slice none 0 0, .slice none 0 0, .slice none 0 0] 26 (0, 0)) := by
    have := heap_alloc_new (w.alloc (.cells #[.slice A0 V.length c0, .slice A1 F.length c1, .slice A2 X.length c2] 26)) (.cells #[.slice none 0 0, .slice none 0 0, .slice none 0 0] 26)
    simp only [World.size_alloc] at this
    exact this
  have HE1 := Aside0.mk e1
  have H1 := Aside0.mk h1
  have H2 := Aside0.mk h2
  clear e1 h1 h2
  go_enter Try.func14, Try.ntmps14
  go_wp2_with fail
  obtain ⟨W1, hW1⟩ : ∃ W1, (w.alloc (.cells #[.slice A0 V.length c0, .slice A1 F.length c1, .slice A2 X.length c2] 26)).alloc (.cells #[.slice none 0 0, .slice none 0 0, .slice none 0 0] 26) = W1 := ⟨_, rfl⟩
  rw [hW1] at HE1 H1 H2 ⊢
  obtain ⟨g2, hg2⟩ : ∃ g2, w.heap.size + 1 = g2 := ⟨_, rfl⟩
  rw [hg2] at H2 ⊢
  clear hW1
  refine (build_calls0 A1 c1 V.length F W1 (Kd.C_below HF.out HE1.out) HS.out).mono ?_
  rintro e W2 ⟨t0, t1, t2, ES, FN, RD, en, hmod, rfl, hr0, hr1, hr2, hb2⟩
  obtain ⟨Ae, ce, rfl⟩ := Kd.R_slice hr0
  obtain ⟨Af, cf, rfl⟩ := Kd.R_slice hr1
  obtain ⟨Ar, cr, rfl⟩ := Kd.R_slice hr2
  have HMOD := Aside0.mk hmod
  have HR0 := Aside0.mk hr0
  have HR1 := Aside0.mk hr1
  have HR2 := Aside0.mk hr2
  have HB2 := Aside0.mk hb2
  have J1 := Aside0.mk ((hb2.block _ (lt_of_block H1.out)).trans H1.out)
  have J2 := Aside0.mk ((hb2.block _ (lt_of_block H2.out)).trans H2.out)
  have HE2 := Aside0.mk (below_then HE1.out HE1.out.size hb2)
  clear hmod hr0 hr1 hr2 hb2 H1 H2
  have b3 : Below W2.heap.size W2 (W2.alloc (.cells #[.slice Ae ES.length ce, .slice Af FN.length cf, .slice Ar RD.length cr] 36)) := below_alloc (Below.refl _ _) _
  have k4 := heap_alloc_new W2 (.cells #[.slice Ae ES.length ce, .slice Af FN.length cf, .slice Ar RD.length cr] 36)
  obtain ⟨W3, hW3⟩ : ∃ W3, W2.alloc (.cells #[.slice Ae ES.length ce, .slice Af FN.length cf, .slice Ar RD.length cr] 36) = W3 := ⟨_, rfl⟩
  rw [hW3] at b3 k4
  have K1 := Aside0.mk ((b3.block _ (lt_of_block J1.out)).trans J1.out)
  have K2 := Aside0.mk ((b3.block _ (lt_of_block J2.out)).trans J2.out)
  have K4 := Aside0.mk k4
  have HE3 := Aside0.mk (below_then HE2.out HE2.out.size b3)
  have HR0 := Aside0.mk (Kd.R_below HR0.out b3)
  have HR1 := Aside0.mk (Kd.R_below HR1.out b3)
  have HR2 := Aside0.mk (Kd.R_below HR2.out b3)
  obtain ⟨g4, hg4⟩ : ∃ g4, W2.heap.size = g4 := ⟨_, rfl⟩
  rw [hg4] at K4
  clear b3 k4 J1 J2 HE2
  have hk0 : W3.cell? ⟨w.heap.size, 0, none⟩ = some (.slice A0 V.length c0) := (blk_cell K1.out 0).trans rfl
  have hk1 : W3.cell? ⟨w.heap.size, 1, none⟩ = some (.slice A1 F.length c1) := (blk_cell K1.out 1).trans rfl
  have hk2 : W3.cell? ⟨w.heap.size, 2, none⟩ = some (.slice A2 X.length c2) := (blk_cell K1.out 2).trans rfl
  have hk3 : W3.cell? ⟨g4, 0, none⟩ = some (.slice Ae ES.length ce) := (blk_cell K4.out 0).trans rfl
  have hk4 : W3.cell? ⟨g4, 1, none⟩ = some (.slice Af FN.length cf) := (blk_cell K4.out 1).trans rfl
  have hk5 : W3.cell? ⟨g4, 2, none⟩ = some (.slice Ar RD.length cr) := (blk_cell K4.out 2).trans rfl
  by_cases hen : en = 0
  · subst hen
    have hsurf : surfOk V.length F = true ∧ ES = edgesOf (alongF F F.length) ∧ FN = (List.range V.length).map (fun v : Nat => fanAt F v) ∧ RD = (List.range V.length).map (fun v : Nat => roundAt F v) := by
      have h := HMOD.out
      unfold topo_Build.f at h
      rw [if_pos HS.out] at h
      by_cases hsf : surfOk V.length F = true
      · rw [if_pos hsf] at h
        simp only [Option.some.injEq, Prod.mk.injEq, Int.toNat_natCast] at h
        exact ⟨hsf, h.1.symm, h.2.1.symm, h.2.2.1.symm⟩
      · rw [if_neg hsf] at h
        simp at h
    have HSF := Aside0.mk hsurf
    have hsl : ES.length ≤ 1099511627776 := by rw [hsurf.2.1]; exact edges_len HS.out
    have hso : Sorted47 ES := by rw [hsurf.2.1]; exact sorted_edgesOf _
    have HSO := Aside0.mk hso
    obtain ⟨_, hle0, hC0⟩ := Kd.R_reads' HR0.out
    obtain ⟨_, hle1, hC1⟩ := Kd.R_reads' HR1.out
    obtain ⟨_, hle2, hC2⟩ := Kd.R_reads' HR2.out
    have HSH := Aside0.mk (sharp_calls W3 A0 A1 A2 Ae Af Ar V.length c0 F.length c1 c2 ce cf cr X ES FN RD (Kd.C_below HX.out HE3.out) hC0 hle0 hC1 hle1 hC2 hle2 hso hsl)
    clear hsurf hso hC0 hC1 hC2
    go_wp2_with fail
    refine HSH.out.mono ?_
    rintro e W4 ⟨v6, rfl, hr6, hb4⟩
    obtain ⟨om, hom⟩ : ∃ om, sharpM ES X = om := ⟨_, rfl⟩
    rw [hom] at hr6 ⊢
    have HOM := Aside0.mk hom
    obtain ⟨A6, c6, rfl⟩ := Kd.R_slice hr6
    have L1 := Aside0.mk ((hb4.block _ (lt_of_block K1.out)).trans K1.out)
    have L2 := Aside0.mk ((hb4.block _ (lt_of_block K2.out)).trans K2.out)
    have L4 := Aside0.mk ((hb4.block _ (lt_of_block K4.out)).trans K4.out)
    have HE4 := Aside0.mk (below_then HE3.out HE3.out.size hb4)
    have HR0 := Aside0.mk (Kd.R_below HR0.out hb4)
    have HR1 := Aside0.mk (Kd.R_below HR1.out hb4)
    have HR2 := Aside0.mk (Kd.R_below HR2.out hb4)
    have HR6 := Aside0.mk hr6
    clear hom hr6 hb4 hk0 hk1 hk2 hk3 hk4 hk5 HSH
    cases om with
    | none =>
      go_wp2_with (first | (refine gate_ (.store 26 (.tmp 2) (.tmp 38)) rfl ?_; refine store_own (g := g2) (j := 0) 26 (.tmp 2) (.tmp 38) rfl rfl rfl (.agg #[.slice none 0 0, .slice none 0 0, .slice none 0 0]) [.slice none 0 0, .slice none 0 0, .slice none 0 0] rfl rfl rfl infoS26 (by decide) L2.out (by simp) ?_))
      intro w9 hg9 cur9 hb9 hl9 hs9
      obtain rfl : cur9 = #[.slice none 0 0, .slice none 0 0, .slice none 0 0] := by
        rw [← Array.toList_inj]
        simpa using hl9
      have HB9 : Aside0 (Below w.heap.size w w9) := ⟨HE4.out.grown hg9 HE4.out.size (fun k hk => by cases hk; omega)⟩
      have HM9 : Aside0 (sub_Level.f V F X = some ([], [], [], 14)) := ⟨by
        unfold sub_Level.f
        rw [HS.out, decide_eq_true hv, HMOD.out]
        simp only [Bool.and_self, if_true]
        rw [HOM.out]⟩
      clear hg9 hl9 hs9
      go_wp2_with fail
      refine bodyPost_ret (results_cell_tmp rfl _ _ g2 26 #[.slice none 0 0, .slice none 0 0, .slice none 0 0] (0, 0) _ rfl hb9 Try.underlying26 rfl infoS26) rfl ?_
      exact ⟨_, _, _, [], [], [], 14, HM9.out, rfl, Kd.R_nil _ _ _ _ _, Kd.R_nil _ _ _ _ _, Kd.R_nil _ _ _ _ _, HB9.out⟩
    | some SH =>
      obtain ⟨far, hfar⟩ : ∃ b, V.any (fun p => !nearP p) = b := ⟨_, rfl⟩
      have HFR := Aside0.mk (far_calls W4 A0 c0 V (Kd.C_below HV.out HE4.out))
      rw [hfar] at HFR
      have HFAR := Aside0.mk hfar
      have hk0 : W4.cell? ⟨w.heap.size, 0, none⟩ = some (.slice A0 V.length c0) := (blk_cell L1.out 0).trans rfl
      have HN6 : Aside0 (SH.length ≤ c6) := ⟨(Kd.R_reads' HR6.out).2.1⟩
      have HN3 : Aside0 (ES.length ≤ ce ∧ FN.length ≤ cf ∧ RD.length ≤ cr) := ⟨(Kd.R_reads' HR0.out).2.1, (Kd.R_reads' HR1.out).2.1, (Kd.R_reads' HR2.out).2.1⟩
      have HL4 : Aside0 (LvR w W4 g2 g4 #[.slice A0 V.length c0, .slice A1 F.length c1, .slice A2 X.length c2] #[.slice Ae ES.length ce, .slice Af FN.length cf, .slice Ar RD.length cr] Ae Af Ar A6 ES FN RD SH) := ⟨⟨HE4.out, L1.out, L2.out, L4.out, by omega, (Kd.R_reads' HR0.out).2.2, (Kd.R_reads' HR1.out).2.2, (Kd.R_reads' HR2.out).2.2, (Kd.R_reads' HR6.out).2.2⟩⟩
      clear hfar HR0 HR1 HR2 HR6 L1 L2 L4 HE3 HE4
      go_wp2_with fail
      refine HFR.out.mono ?_
      rintro e W5 ⟨rfl, hb5⟩
      have HL := Aside0.mk (HL4.out.step hb5)
      clear hb5 HL4 HFR hk0
      cases far with
      | true =>
        have hres := HL.out.res
        go_wp2_with (first | (refine gate_ (.store 26 (.tmp 2) (.tmp 43)) rfl ?_; refine store_own (g := g2) (j := 0) 26 (.tmp 2) (.tmp 43) rfl rfl rfl (.agg #[.slice none 0 0, .slice none 0 0, .slice none 0 0]) [.slice none 0 0, .slice none 0 0, .slice none 0 0] rfl rfl rfl infoS26 (by decide) hres (by simp) ?_))
        intro w9 hg9 cur9 hb9 hl9 hs9
        obtain rfl : cur9 = #[.slice none 0 0, .slice none 0 0, .slice none 0 0] := by
          rw [← Array.toList_inj]
          simpa using hl9
        have HB9 : Aside0 (Below w.heap.size w w9) := ⟨HL.out.b.grown hg9 HL.out.b.size (fun k hk => by cases hk; omega)⟩
        have HM9 : Aside0 (sub_Level.f V F X = some ([], [], [], 21)) := ⟨by
          unfold sub_Level.f
          rw [HS.out, decide_eq_true hv, HMOD.out]
          simp only [Bool.and_self, if_true]
          rw [HOM.out]
          simp only
          rw [if_pos HFAR.out]⟩
        clear hg9 hl9 hs9
        go_wp2_with fail
        refine bodyPost_ret (results_cell_tmp rfl _ _ g2 26 #[.slice none 0 0, .slice none 0 0, .slice none 0 0] (0, 0) _ rfl hb9 Try.underlying26 rfl infoS26) rfl ?_
        exact ⟨_, _, _, [], [], [], 21, HM9.out, rfl, Kd.R_nil _ _ _ _ _, Kd.R_nil _ _ _ _ _, Kd.R_nil _ _ _ _ _, HB9.out⟩
      | false =>
        go_wp2_with fail
        refine start_ (n := 10) (S := (fun w' => w'.cell? ⟨w.heap.size, 0, none⟩ = some (.slice A0 V.length c0) ∧ w'.cell? ⟨w.heap.size, 1, none⟩ = some (.slice A1 F.length c1) ∧ w'.cell? ⟨w.heap.size, 2, none⟩ = some (.slice A2 X.length c2) ∧ w'.cell? ⟨g4, 0, none⟩ = some (.slice Ae ES.length ce) ∧ w'.cell? ⟨g4, 1, none⟩ = some (.slice Af FN.length cf) ∧ w'.cell? ⟨g4, 2, none⟩ = some (.slice Ar RD.length cr))) (ds := [8]) #[false, false, false, false, false, false, false, false, false, false] (by kernel_rfl) rfl rfl ⟨(blk_cell (blk_drew HL.out.cage) 0).trans rfl, (blk_cell (blk_drew HL.out.cage) 1).trans rfl, (blk_cell (blk_drew HL.out.cage) 2).trans rfl, (blk_cell (blk_drew HL.out.topo) 0).trans rfl, (blk_cell (blk_drew HL.out.topo) 1).trans rfl, (blk_cell (blk_drew HL.out.topo) 2).trans rfl⟩ (fun hHeld => ?_)
        have HL6 := Aside0.mk (HL.out.step (below_drew (Below.refl _ _)))
        generalize W5.drew = W6 at hHeld HL6 ⊢
        have HL6' : Aside0 _ := HL6
        refine take_ (i := 0) (N := some 44) (v := ?_) (a' := ?_) #[true, false, false, false, false, false, false, false, false, false] rfl rfl (by kernel_rfl) (fun _ _ _ h => h) (Or.inl ⟨by rfl, ?_⟩) (by assumption) ?_ ?_
        rotate_left
        · (intro w' hSw; (try dsimp only at hSw); go_split_ands; go_simp; with_reducible rfl)
        rotate_left
        · (simp only [Act.put, List.setIfInBounds_toArray, List.set_cons_zero, List.set_cons_succ, i64_w, i32_w]; rfl)
        refine take_ (i := 1) (N := some 45) (v := ?_) (a' := ?_) #[true, true, false, false, false, false, false, false, false, false] rfl rfl (by kernel_rfl) (fun _ _ _ h => h) (Or.inl ⟨by rfl, ?_⟩) (by assumption) ?_ ?_
        rotate_left
        · (intro w' hSw; (try dsimp only at hSw); go_split_ands; go_simp; with_reducible rfl)
        rotate_left
        · (simp only [Act.put, List.setIfInBounds_toArray, List.set_cons_zero, List.set_cons_succ, i64_w, i32_w]; rfl)
        refine pure_ (i := 2) (N := some 46) (v := ?_) (a' := ?_) #[true, true, true, false, false, false, false, false, false, false] rfl rfl (by kernel_rfl) (fun _ _ _ h => h) (Or.inl ⟨by rfl, ?_⟩) ?_ ?_
        rotate_left
        · (intro w'; go_simp; with_reducible rfl)
        rotate_left
        · (simp only [Act.put, List.setIfInBounds_toArray, List.set_cons_zero, List.set_cons_succ, i64_w, i32_w]; rfl)
        refine pure_ (i := 3) (N := some 47) (v := ?_) (a' := ?_) #[true, true, true, true, false, false, false, false, false, false] rfl rfl (by kernel_rfl) (fun _ _ _ h => h) (Or.inl ⟨by rfl, ?_⟩) ?_ ?_
        rotate_left
        · (intro w'; go_simp; with_reducible rfl)
        rotate_left
        · (simp only [Act.put, List.setIfInBounds_toArray, List.set_cons_zero, List.set_cons_succ, i64_w, i32_w]; rfl)
        refine take_ (i := 4) (N := some 48) (v := ?_) (a' := ?_) #[true, true, true, true, true, false, false, false, false, false] rfl rfl (by kernel_rfl) (fun _ _ _ h => h) (Or.inl ⟨by rfl, ?_⟩) (by assumption) ?_ ?_
        rotate_left
        · (intro w' hSw; (try dsimp only at hSw); go_split_ands; go_simp; with_reducible rfl)
        rotate_left
        · (simp only [Act.put, List.setIfInBounds_toArray, List.set_cons_zero, List.set_cons_succ, i64_w, i32_w]; rfl)
        refine pure_ (i := 5) (N := some 49) (v := ?_) (a' := ?_) #[true, true, true, true, true, true, false, false, false, false] rfl rfl (by kernel_rfl) (fun _ _ _ h => h) (Or.inl ⟨by rfl, ?_⟩) ?_ ?_
        rotate_left
        · (intro w'; go_simp; with_reducible rfl)
        rotate_left
        · (simp only [Act.put, List.setIfInBounds_toArray, List.set_cons_zero, List.set_cons_succ, i64_w, i32_w]; rfl)
        clear hHeld
        refine one_ (i := 6) (N := some 50) #[true, true, true, true, true, true, true, false, false, false] rfl rfl (by kernel_rfl) (by decide) (fun K hK => ?_)
        refine Kd.S_make_step kRow (w0 := W6) W6.heap.size 29 rfl rfl 23 (.tmp 49) (.tmp 49) rfl (V.length : Int) rfl rfl Try.underlying23 (.slice none 0 0) 24 infoB29 rfl (by decide) (by decide) [] (ok := fun _ => True) (okp := fun _ => False) ⟨_, rfl, Kd.R_nil _ _ _ _ _⟩ (fun _ _ => trivial) trivial (by omega) (by omega) (Below.refl _ _) (Nat.le_refl _) ?_
        intro vE W7 hs7 hb7 hg7 hv7
        refine put_dst (some 50) rfl ?_
        have HL7 := Aside0.mk (HL6.out.step hb7)
        obtain ⟨A7, c7, hvE⟩ := Kd.S_slice hs7
        rw [List.length_replicate, Int.toNat_natCast] at hvE
        subst hvE
        have HS7 := Aside0.mk hs7
        have HB7 := Aside0.mk hb7
        clear hs7 hb7 hg7 hv7
        refine hK.out _ _ ⟨(blk_cell HL7.out.cage 0).trans rfl, (blk_cell HL7.out.cage 1).trans rfl, (blk_cell HL7.out.cage 2).trans rfl, (blk_cell HL7.out.topo 0).trans rfl, (blk_cell HL7.out.topo 1).trans rfl, (blk_cell HL7.out.topo 2).trans rfl⟩ (fun hHeld => ?_)
        clear hK K
        refine norm_ (a' := ?_) ?_ ?_
        rotate_left
        · (simp only [Act.put, List.setIfInBounds_toArray, List.set_cons_zero, List.set_cons_succ, i64_w, i32_w]; rfl)
        refine pure_ (i := 7) (N := some 51) (v := ?_) (a' := ?_) #[true, true, true, true, true, true, true, true, false, false] rfl rfl (by kernel_rfl) (fun _ _ _ h => h) (Or.inl ⟨by rfl, ?_⟩) ?_ ?_
        rotate_left
        · (intro w'; go_simp; with_reducible rfl)
        rotate_left
        · (simp only [Act.put, List.setIfInBounds_toArray, List.set_cons_zero, List.set_cons_succ, i64_w, i32_w]; rfl)
        clear hHeld
        refine last_ (i := 8) (N := some 52) #[true, true, true, true, true, true, true, true, true, false] rfl rfl (by kernel_rfl) (by decide) (fun K hK => ?_)
        refine value_ (v := .pointer (some ⟨W7.heap.size, 0, none⟩)) (w1 := W7.alloc (.cells #[.slice A0 V.length c0, .slice A1 F.length c1, .slice A2 X.length c2, .slice Ae ES.length ce, .slice Af FN.length cf, .slice Ar RD.length cr, .slice A6 SH.length c6, .slice A7 V.length c7, .slice none 0 0] 79)) (by rfl) rfl (by go_simp) ?_
        refine hK.out _ _ ?_
        clear hK K
        refine norm_ (a' := ?_) ?_ ?_
        rotate_left
        · (simp only [Act.put, List.setIfInBounds_toArray, List.set_cons_zero, List.set_cons_succ, i64_w, i32_w]; rfl)
        refine pure_ (i := 9) (N := some 7) (v := ?_) (a' := ?_) #[true, true, true, true, true, true, true, true, true, true] rfl rfl (by kernel_rfl) (fun _ _ _ h => h) (Or.inl ⟨by rfl, ?_⟩) ?_ ?_
        rotate_left
        · (intro w'; go_simp; with_reducible rfl)
        rotate_left
        · (simp only [Act.put, List.setIfInBounds_toArray, List.set_cons_zero, List.set_cons_succ, i64_w, i32_w]; rfl)
        refine done_ (by kernel_rfl) ?_
        have e8 : Below W7.heap.size W7 (W7.alloc (.cells #[.slice A0 V.length c0, .slice A1 F.length c1, .slice A2 X.length c2, .slice Ae ES.length ce, .slice Af FN.length cf, .slice Ar RD.length cr, .slice A6 SH.length c6, .slice A7 V.length c7, .slice none 0 0] 79)) := below_alloc (Below.refl _ _) _
        have k8 := heap_alloc_new W7 (.cells #[.slice A0 V.length c0, .slice A1 F.length c1, .slice A2 X.length c2, .slice Ae ES.length ce, .slice Af FN.length cf, .slice Ar RD.length cr, .slice A6 SH.length c6, .slice A7 V.length c7, .slice none 0 0] 79)
        have HS8 := Aside0.mk (Kd.S_below HS7.out e8)
        have hlt7 : ∀ k, k < W7.heap.size → k ≠ W7.heap.size := fun k h => by omega
        have HS9 : Aside0 (Kd.S kRow 29 (W7.alloc (.cells #[.slice A0 V.length c0, .slice A1 F.length c1, .slice A2 X.length c2, .slice Ae ES.length ce, .slice Af FN.length cf, .slice Ar RD.length cr, .slice A6 SH.length c6, .slice A7 V.length c7, .slice none 0 0] 79)) W6.heap.size (fun k => k ≠ W7.heap.size) (.slice A7 V.length c7) (List.replicate V.length [])) := ⟨Kd.S_mono (Kd.S_below (Kd.S_bound HS7.out) e8) (fun k hk => by have := hk.2.2.1; omega)⟩
        obtain ⟨W8, hW8⟩ : ∃ W8, W7.alloc (.cells #[.slice A0 V.length c0, .slice A1 F.length c1, .slice A2 X.length c2, .slice Ae ES.length ce, .slice Af FN.length cf, .slice Ar RD.length cr, .slice A6 SH.length c6, .slice A7 V.length c7, .slice none 0 0] 79) = W8 := ⟨_, rfl⟩
        rw [hW8] at e8 k8 HS9 ⊢
        have HL8 := Aside0.mk (HL7.out.step e8)
        obtain ⟨g7, hg7⟩ : ∃ g7, W7.heap.size = g7 := ⟨_, rfl⟩
        rw [hg7] at k8 HS9 ⊢
        have HST : Aside0 (St1 W6 W8 g7 (lvFin V F X ES FN RD SH A0 A1 A2 Ae Af Ar A6 A7 none c0 c1 c2 ce cf cr c6 c7 0 (starsTo V.length ES 0) [])) := ⟨by
          refine ⟨below_then HB7.out HB7.out.size e8, ?_, by rw [← hg7]; exact HB7.out.size, ?_⟩
          · rw [k8]
            simp [Fin_.obj, lvFin, starsTo]
          · have e := stars_zero V.length ES
            show Kd.S kRow 29 W8 W6.heap.size (fun k => k ≠ g7) (.slice A7 (starsTo V.length ES 0).length c7) (starsTo V.length ES 0)
            rw [e, List.length_replicate]
            exact HS9.out⟩
        have hk3 : W8.cell? ⟨g4, 0, none⟩ = some (.slice Ae ES.length ce) := (blk_cell HL8.out.topo 0).trans rfl
        clear e8 k8 HS8 HS9 hlt7 HS7 HB7 hW8 hg7 HL7
        go_wp2_with fail
        clear hk3
        go_loopw [56] (fun v56 wr => ∃ i : Nat, i ≤ ES.length ∧ v56 = .int .i64 i ∧ Aside0 (St1 W6 wr g7 (lvFin V F X ES FN RD SH A0 A1 A2 Ae Af Ar A6 A7 none c0 c1 c2 ce cf cr c6 c7 0 (starsTo V.length ES i) [])))
          (fun v56 _ => ES.length - (intOf v56).toNat)
        case atStart => exact ⟨0, Nat.zero_le _, rfl, HST⟩
        case round =>
          clear HST
          obtain ⟨i, hi, rfl, HST⟩ := hrel
          by_cases hlt : i < ES.length
          · have hok : EdgeOk V.length F.length (rd_T47 ES (i : Int)) := by
              rw [rd47 hlt]
              exact edge_ok HSF.out.1 (by rw [← HSF.out.2.1]; exact List.getElem_mem hlt)
            have hLr := HL6'.out.step HST.out.b
            obtain ⟨ade, e', hy0, hy1, hy2, hy3⟩ := at_T47 hLr.es (i : Int) (by omega) (by omega)
            cases e'
            have HED := Aside0.mk (rfl : rd_T47 ES (i : Int) = rd_T47 ES (i : Int))
            generalize hed : rd_T47 ES (i : Int) = ed at hok hy0 hy1 hy2 hy3
            have HEDE := Aside0.mk hed
            obtain ⟨x0, x1, x2, x3⟩ := ed
            obtain ⟨a0, rfl⟩ : ∃ a0 : Nat, x0 = (a0 : Int) := ⟨x0.toNat, by have := hok.lo; simp only at this; omega⟩
            obtain ⟨a1, rfl⟩ : ∃ a1 : Nat, x1 = (a1 : Int) := ⟨x1.toNat, by have := hok.lo; have := hok.lt; simp only at *; omega⟩
            have hk1 : a1 < V.length := by have := hok.hi; simp only at this; omega
            have hk0 : a0 < a1 := by have := hok.lt; simp only at this; omega
            rw [Int.toNat_natCast] at hy0 hy1 hy2 hy3
            simp only at hy0 hy1 hy2 hy3
            clear hok hLr hed HED
            go_wp2_with fail
            have b9 : Below wr.heap.size wr (wr.alloc (.cells #[.int .i64 a0, .int .i64 a1, .int .i64 x2, .int .i64 x3] 47)) := below_alloc (Below.refl _ _) _
            have k9 := heap_alloc_new wr (.cells #[.int .i64 a0, .int .i64 a1, .int .i64 x2, .int .i64 x3] 47)
            obtain ⟨W9, hW9⟩ : ∃ W9, wr.alloc (.cells #[.int .i64 a0, .int .i64 a1, .int .i64 x2, .int .i64 x3] 47) = W9 := ⟨_, rfl⟩
            rw [hW9] at b9 k9 ⊢
            obtain ⟨g9, hg9⟩ : ∃ g9, wr.heap.size = g9 := ⟨_, rfl⟩
            rw [hg9] at k9 ⊢
            have HST9 := Aside0.mk ((HST.out.step b9).step (below_drew (Below.refl _ W9)))
            have K9 := Aside0.mk (blk_drew k9)
            clear b9 k9 hW9 hg9 hy0 hy1 hy2 hy3 HST
            have hlen : (starsTo V.length ES i).length = V.length := by simp [starsTo]
            have HLEN := Aside0.mk hlen
            obtain ⟨gE, oki, v, hA7, hltE, hbE, hneE, hR, hcell, hoki, hH⟩ := HST9.out.lend (a0 : Int) (by omega) (by show (a0 : Int) < ((starsTo V.length ES i).length : Int); omega)
            have hA7' : A7 = some ⟨gE, 0, none⟩ := hA7
            subst hA7'
            have HR := Aside0.mk hR
            have HOK := Aside0.mk hoki
            have HH := Aside0.mk hH
            have HNE := Aside0.mk hneE
            have HBE := Aside0.mk hbE
            have HLE := Aside0.mk hltE
            have hc7 : W9.drew.cell? ⟨g7, 7, none⟩ = some (.slice (some ⟨gE, 0, none⟩) V.length c7) := by
              have := (blk_cell HST9.out.at_ 7).trans (rfl : _ = some (Value.slice (some ⟨gE, 0, none⟩) (starsTo V.length ES i).length c7))
              rwa [hlen] at this
            have hcE : W9.drew.cell? ⟨gE, a0, none⟩ = some v := by rwa [Int.toNat_natCast] at hcell
            clear hA7 hR hoki hH hneE hbE hltE hcell hlen
            have hd1 : (a0 : Int) < (V.length : Int) := by omega
            have hd2 : (0 : Int) ≤ (a0 : Int) := by omega
            refine start_ (n := 19) (S := (fun w' => w'.cell? ⟨g7, 7, none⟩ = some (.slice (some ⟨gE, 0, none⟩) V.length c7) ∧ w'.cell? ⟨g9, 0, none⟩ = some (.int .i64 a0) ∧ w'.cell? ⟨gE, a0, none⟩ = some v)) (ds := [18]) #[false, false, false, false, false, false, false, false, false, false, false, false, false, false, false, false, false, false, false] (by kernel_rfl) rfl rfl ⟨hc7, (blk_cell K9.out 0).trans rfl, hcE⟩ (fun hHeld => ?_)
            generalize W9.drew = W10 at hHeld HST9 K9 HR HH HLE ⊢
            clear hc7 hcE
            refine pure_ (i := 0) (N := some 61) (v := ?_) (a' := ?_) #[true, false, false, false, false, false, false, false, false, false, false, false, false, false, false, false, false, false, false] rfl rfl (by kernel_rfl) (fun _ _ _ h => h) (Or.inl ⟨by rfl, ?_⟩) ?_ ?_
            rotate_left
            · (intro w'; go_simp; with_reducible rfl)
            rotate_left
            · (simp only [Act.put, List.setIfInBounds_toArray, List.set_cons_zero, List.set_cons_succ, i64_w, i32_w]; rfl)
            refine pure_ (i := 1) (N := some 62) (v := ?_) (a' := ?_) #[true, true, false, false, false, false, false, false, false, false, false, false, false, false, false, false, false, false, false] rfl rfl (by kernel_rfl) (fun _ _ _ h => h) (Or.inl ⟨by rfl, ?_⟩) ?_ ?_
            rotate_left
            · (intro w'; go_simp; with_reducible rfl)
            rotate_left
            · (simp only [Act.put, List.setIfInBounds_toArray, List.set_cons_zero, List.set_cons_succ, i64_w, i32_w]; rfl)
            refine pure_ (i := 2) (N := some 63) (v := ?_) (a' := ?_) #[true, true, true, false, false, false, false, false, false, false, false, false, false, false, false, false, false, false, false] rfl rfl (by kernel_rfl) (fun _ _ _ h => h) (Or.inl ⟨by rfl, ?_⟩) ?_ ?_
            rotate_left
            · (intro w'; go_simp; with_reducible rfl)
            rotate_left
            · (simp only [Act.put, List.setIfInBounds_toArray, List.set_cons_zero, List.set_cons_succ, i64_w, i32_w]; rfl)
            refine take_ (i := 3) (N := some 64) (v := ?_) (a' := ?_) #[true, true, true, true, false, false, false, false, false, false, false, false, false, false, false, false, false, false, false] rfl rfl (by kernel_rfl) (fun _ _ _ h => h) (Or.inl ⟨by rfl, ?_⟩) (by assumption) ?_ ?_
            rotate_left
            · (intro w' hSw; (try dsimp only at hSw); go_split_ands; go_simp; with_reducible rfl)
            rotate_left
            · (simp only [Act.put, List.setIfInBounds_toArray, List.set_cons_zero, List.set_cons_succ, i64_w, i32_w]; rfl)
            refine pure_ (i := 4) (N := some 65) (v := ?_) (a' := ?_) #[true, true, true, true, true, false, false, false, false, false, false, false, false, false, false, false, false, false, false] rfl rfl (by kernel_rfl) (fun _ _ _ h => h) (Or.inl ⟨by rfl, ?_⟩) ?_ ?_
            rotate_left
            · (intro w'; go_simp; with_reducible rfl)
            rotate_left
            · (simp only [Act.put, List.setIfInBounds_toArray, List.set_cons_zero, List.set_cons_succ, i64_w, i32_w]; rfl)
            refine take_ (i := 5) (N := some 66) (v := ?_) (a' := ?_) #[true, true, true, true, true, true, false, false, false, false, false, false, false, false, false, false, false, false, false] rfl rfl (by kernel_rfl) (fun _ _ _ h => h) (Or.inl ⟨by rfl, ?_⟩) (by assumption) ?_ ?_
            rotate_left
            · (intro w' hSw; (try dsimp only at hSw); go_split_ands; go_simp; with_reducible rfl)
            rotate_left
            · (simp only [Act.put, List.setIfInBounds_toArray, List.set_cons_zero, List.set_cons_succ, i64_w, i32_w]; rfl)
            refine pure_ (i := 6) (N := some 67) (v := ?_) (a' := ?_) #[true, true, true, true, true, true, true, false, false, false, false, false, false, false, false, false, false, false, false] rfl rfl (by kernel_rfl) (fun _ _ _ h => h) (Or.inl ⟨by rfl, ?_⟩) ?_ ?_
            rotate_left
            · (intro w'; go_simp; with_reducible rfl)
            rotate_left
            · (simp only [Act.put, List.setIfInBounds_toArray, List.set_cons_zero, List.set_cons_succ, i64_w, i32_w]; rfl)
            refine pure_ (i := 7) (N := some 68) (v := ?_) (a' := ?_) #[true, true, true, true, true, true, true, true, false, false, false, false, false, false, false, false, false, false, false] rfl rfl (by kernel_rfl) (fun _ _ _ h => h) (Or.inl ⟨by rfl, ?_⟩) ?_ ?_
            rotate_left
            · (intro w'; go_simp; with_reducible rfl)
            rotate_left
            · (simp only [Act.put, List.setIfInBounds_toArray, List.set_cons_zero, List.set_cons_succ, i64_w, i32_w]; rfl)
            refine pure_ (i := 8) (N := some 69) (v := ?_) (a' := ?_) #[true, true, true, true, true, true, true, true, true, false, false, false, false, false, false, false, false, false, false] rfl rfl (by kernel_rfl) (fun _ _ _ h => h) (Or.inl ⟨by rfl, ?_⟩) ?_ ?_
            rotate_left
            · (intro w'; go_simp; with_reducible rfl)
            rotate_left
            · (simp only [Act.put, List.setIfInBounds_toArray, List.set_cons_zero, List.set_cons_succ, i64_w, i32_w]; rfl)
            refine take_ (i := 9) (N := some 70) (v := ?_) (a' := ?_) #[true, true, true, true, true, true, true, true, true, true, false, false, false, false, false, false, false, false, false] rfl rfl (by kernel_rfl) (fun _ _ _ h => h) (Or.inl ⟨by rfl, ?_⟩) (by assumption) ?_ ?_
            rotate_left
            · (intro w' hSw; (try dsimp only at hSw); go_split_ands; go_simp; with_reducible rfl)
            rotate_left
            · (simp only [Act.put, List.setIfInBounds_toArray, List.set_cons_zero, List.set_cons_succ, i64_w, i32_w]; rfl)
            refine pure_ (i := 10) (N := some 71) (v := ?_) (a' := ?_) #[true, true, true, true, true, true, true, true, true, true, true, false, false, false, false, false, false, false, false] rfl rfl (by kernel_rfl) (fun _ _ _ h => h) (Or.inl ⟨by rfl, ?_⟩) ?_ ?_
            rotate_left
            · (intro w'; go_simp; with_reducible rfl)
            rotate_left
            · (simp only [Act.put, List.setIfInBounds_toArray, List.set_cons_zero, List.set_cons_succ, i64_w, i32_w]; rfl)
            refine take_ (i := 11) (N := some 72) (v := ?_) (a' := ?_) #[true, true, true, true, true, true, true, true, true, true, true, true, false, false, false, false, false, false, false] rfl rfl (by kernel_rfl) (fun _ _ _ h => h) (Or.inl ⟨by rfl, ?_⟩) (by assumption) ?_ ?_
            rotate_left
            · (intro w' hSw; (try dsimp only at hSw); go_split_ands; go_simp; with_reducible rfl)
            rotate_left
            · (simp only [Act.put, List.setIfInBounds_toArray, List.set_cons_zero, List.set_cons_succ, i64_w, i32_w]; rfl)
            refine pure_ (i := 12) (N := some 73) (v := ?_) (a' := ?_) #[true, true, true, true, true, true, true, true, true, true, true, true, true, false, false, false, false, false, false] rfl rfl (by kernel_rfl) (fun _ _ _ h => h) (Or.inl ⟨by rfl, ?_⟩) ?_ ?_
            rotate_left
            · (intro w'; go_simp; with_reducible rfl)
            rotate_left
            · (simp only [Act.put, List.setIfInBounds_toArray, List.set_cons_zero, List.set_cons_succ, i64_w, i32_w]; rfl)
            refine take_ (i := 13) (N := some 74) (v := ?_) (a' := ?_) #[true, true, true, true, true, true, true, true, true, true, true, true, true, true, false, false, false, false, false] rfl rfl (by kernel_rfl) (fun _ _ _ h => h) (Or.inl ⟨by rfl, ?_⟩) (by assumption) ?_ ?_
            rotate_left
            · (intro w' hSw; (try dsimp only at hSw); go_split_ands; go_simp; with_reducible rfl)
            rotate_left
            · (simp only [Act.put, List.setIfInBounds_toArray, List.set_cons_zero, List.set_cons_succ, i64_w, i32_w]; rfl)
            refine pure_ (i := 14) (N := some 75) (v := ?_) (a' := ?_) #[true, true, true, true, true, true, true, true, true, true, true, true, true, true, true, false, false, false, false] rfl rfl (by kernel_rfl) (fun _ _ _ h => h) (Or.inl ⟨by rfl, ?_⟩) ?_ ?_
            rotate_left
            · (intro w'; go_simp; with_reducible rfl)
            rotate_left
            · (simp only [Act.put, List.setIfInBounds_toArray, List.set_cons_zero, List.set_cons_succ, i64_w, i32_w]; rfl)
            refine one_ (i := 15) (N := some 76) #[true, true, true, true, true, true, true, true, true, true, true, true, true, true, true, true, false, false, false] rfl rfl (by kernel_rfl) (by decide) (fun K hK => ?_)
            refine value_ (v := .slice (some ⟨W10.heap.size, 0, none⟩) 1 1) (w1 := W10.alloc (.cells #[.int .i64 i] 3)) (by rfl) rfl (by go_simp) ?_
            have b11 : Below W10.heap.size W10 (W10.alloc (.cells #[.int .i64 i] 3)) := below_alloc (Below.refl _ _) _
            have h7 := hHeld.1
            have h9 := hHeld.2.1
            have hE := hHeld.2.2
            have hH1 := Aside0.mk hHeld
            clear hHeld
            refine hK.out _ _ ⟨pw_cell_below b11 h7, pw_cell_below b11 h9, pw_cell_below b11 hE⟩ (fun hHeld => ?_)
            clear hK K
            refine norm_ (a' := ?_) ?_ ?_
            rotate_left
            · (simp only [Act.put, List.setIfInBounds_toArray, List.set_cons_zero, List.set_cons_succ, i64_w, i32_w]; rfl)
            clear hHeld
            have hsz : (fcAt (starsTo V.length ES i) (a0 : Int)).length ≤ 1099511627776 := by
              have := star_len (n := V.length) (ES := ES) (k := i) (v := a0) (by omega)
              omega
            refine one_ (i := 16) (N := some 77) #[true, true, true, true, true, true, true, true, true, true, true, true, true, true, true, true, true, false, false] rfl rfl (by kernel_rfl) (by decide) (fun K hK => ?_)
            refine Kd.R_append_step (Kd.int .i64) (w0 := W6) W6.heap.size rfl (.tmp 74) (.tmp 76) 29 3 (.int .i64 0) 8 rfl Try.underlying29 info3 rfl (by decide) (by decide) v (fcAt (starsTo V.length ES i) (a0 : Int)) (i : Int) [.int .i64 i] (fun k => oki k ∨ (k ≠ g7 ∧ W10.heap.size ≤ k)) (fun _ => False) rfl rfl rfl (fun _ hk => hk.elim) ?aF ?aO ?aB ?aS ?aL ?_
            case aF => exact fun k hk => .inr ⟨by have := lt_of_block HST9.out.at_; omega, hk⟩
            case aO => exact Kd.R_mono HR.out (fun _ hk => .inl hk)
            case aB => exact HST9.out.b
            case aS => exact HST9.out.b.size
            case aL => omega
            intro v1 w1 ho1 hb1 hg1 hat1
            refine put_dst (some 77) rfl ?_
            have n7 : some g7 ≠ v.ownBlock := fun e => (HOK.out g7 (HR.out.1 g7 e.symm)).1 rfl
            have nE : some gE ≠ v.ownBlock := fun e => (HOK.out gE (HR.out.1 gE e.symm)).2 rfl
            have n9 : some g9 ≠ v.ownBlock := Kd.R_ne HR.out K9.out (by decide)
            refine hK.out _ _ ⟨(cell_after hg1 (lt_of_block HST9.out.at_) n7).trans h7, (cell_after hg1 (lt_of_block K9.out) n9).trans h9, (cell_after hg1 HLE.out nE).trans hE⟩ (fun hHeld => ?_)
            clear hK K
            refine norm_ (a' := ?_) ?_ ?_
            rotate_left
            · (simp only [Act.put, List.setIfInBounds_toArray, List.set_cons_zero, List.set_cons_succ, i64_w, i32_w]; rfl)
            clear hHeld
            obtain ⟨hst, cur, hcur, hcs⟩ := St1.put HST9.out (a := (a0 : Int)) (i := (i : Int)) (by omega) (by show (a0 : Int) < ((starsTo V.length ES i).length : Int); rw [HLEN.out]; omega) rfl HLE.out HBE.out HNE.out HR.out HOK.out HH.out (Below.refl _ _) ho1 hg1
            rw [Int.toNat_natCast] at hst hcs
            have hval := Kd.R_val ho1
            have k9' := (hg1.block _ (lt_of_block K9.out) n9).trans K9.out
            have HST12 := Aside0.mk hst
            have HCUR := Aside0.mk hcur
            have HCS := Aside0.mk hcs
            have HVAL := Aside0.mk hval
            have K9' := Aside0.mk k9'
            clear hst hcur hcs hval k9' ho1 hb1 hg1 hat1 n7 nE n9 h7 h9 hE hH1 hsz b11 HR HOK HH HLE HBE HNE HST9 K9
            refine pure_ (i := 17) (N := some 78) (v := ?_) (a' := ?_) #[true, true, true, true, true, true, true, true, true, true, true, true, true, true, true, true, true, true, false] rfl rfl (by kernel_rfl) (fun _ _ _ h => h) (Or.inl ⟨by rfl, ?_⟩) ?_ ?_
            rotate_left
            · (intro w'; go_simp; with_reducible rfl)
            rotate_left
            · (simp only [Act.put, List.setIfInBounds_toArray, List.set_cons_zero, List.set_cons_succ, i64_w, i32_w]; rfl)
            refine last_ (i := 18) (N := none) #[true, true, true, true, true, true, true, true, true, true, true, true, true, true, true, true, true, true, true] rfl rfl (by kernel_rfl) (by decide) (fun K hK => ?_)
            refine skip_ (by rfl) rfl (run_store_own (g := gE) (j := a0) 29 (.tmp 78) (.tmp 77) rfl v1 [v1] rfl rfl HVAL.out.1 infoS29 (by simpa using HVAL.out.2) HCUR.out HCS.out) ?_
            refine hK.out _ _ ?_
            clear hK K
            refine done_ (by kernel_rfl) ?_
            obtain ⟨hgw, _⟩ := set_own (j := a0) [v1] HCUR.out HCS.out
            have hge9 : g9 ≠ gE := fun e => by
              have h1 := K9'.out
              rw [e, HCUR.out] at h1
              injection h1 with h1
              injection h1 with _ h1
              cases h1
            have k12 := (hgw.block _ (lt_of_block K9'.out) (fun e => hge9 (Option.some.inj e))).trans K9'.out
            obtain ⟨EV1, hEV1⟩ : ∃ E, (starsTo V.length ES i).set a0 (fcAt (starsTo V.length ES i) (a0 : Int) ++ [(i : Int)]) = E := ⟨_, rfl⟩
            have hst2 : St1 W6 (w1.setCells gE a0 [v1]) g7 (lvFin V F X ES FN RD SH A0 A1 A2 (some ade) Af Ar A6 (some ⟨gE, 0, none⟩) none c0 c1 c2 ce cf cr c6 c7 0 EV1 []) := by
              rw [← hEV1]
              exact HST12.out
            obtain ⟨W12, hW12⟩ : ∃ W, w1.setCells gE a0 [v1] = W := ⟨_, rfl⟩
            rw [hW12] at hst2 k12 ⊢
            have HST13 := Aside0.mk (hst2.step (below_drew (Below.refl _ W12)))
            have K13 := Aside0.mk (blk_drew k12)
            have hlen1 : EV1.length = V.length := by rw [← hEV1]; simp [starsTo]
            have hsz1 : (fcAt EV1 (a1 : Int)).length ≤ 1099511627776 := by
              rw [← hEV1, fcAt_set _ _ _ _ (by rw [HLEN.out]; omega), if_neg (by omega)]
              have := star_len (n := V.length) (ES := ES) (k := i) (v := a1) hk1
              omega
            have HSZ1 := Aside0.mk hsz1
            have HEV1 := Aside0.mk hEV1
            have HLEN1 := Aside0.mk hlen1
            obtain ⟨gE', oki1, u1, hA7, hltE, hbE, hneE, hR, hcell, hoki, hH⟩ := HST13.out.lend (a1 : Int) (by omega) (by show (a1 : Int) < (EV1.length : Int); omega)
            have hgE' : gE' = gE := by
              have h1 : (some ⟨gE, 0, none⟩ : Option Addr) = some ⟨gE', 0, none⟩ := hA7
              injection h1 with h1
              injection h1 with h1
              exact h1.symm
            subst hgE'
            have HR := Aside0.mk hR
            have HOK := Aside0.mk hoki
            have HH := Aside0.mk hH
            have HNE := Aside0.mk hneE
            have HBE := Aside0.mk hbE
            have HLE := Aside0.mk hltE
            have hc7 : W12.drew.cell? ⟨g7, 7, none⟩ = some (.slice (some ⟨gE', 0, none⟩) V.length c7) := by
              have := (blk_cell HST13.out.at_ 7).trans (rfl : _ = some (Value.slice (some ⟨gE', 0, none⟩) EV1.length c7))
              rwa [hlen1] at this
            have hcE : W12.drew.cell? ⟨gE', a1, none⟩ = some u1 := by rwa [Int.toNat_natCast] at hcell
            clear hA7 hR hoki hH hneE hbE hltE hcell hlen1 hEV1 hsz1 hst2 k12 hW12 hgw hge9 HST12 HCUR HCS HVAL K9' hd1 hd2
            have hd1 : (a1 : Int) < (V.length : Int) := by omega
            have hd2 : (0 : Int) ≤ (a1 : Int) := by omega
            go_wp2_with fail
            refine start_ (n := 19) (S := (fun w' => w'.cell? ⟨g7, 7, none⟩ = some (.slice (some ⟨gE', 0, none⟩) V.length c7) ∧ w'.cell? ⟨g9, 1, none⟩ = some (.int .i64 a1) ∧ w'.cell? ⟨gE', a1, none⟩ = some u1)) (ds := [18]) #[false, false, false, false, false, false, false, false, false, false, false, false, false, false, false, false, false, false, false] (by kernel_rfl) rfl rfl ⟨hc7, (blk_cell K13.out 1).trans rfl, hcE⟩ (fun hHeld => ?_)
            generalize W12.drew = W14 at hHeld HST13 K13 HR HH HLE ⊢
            clear hc7 hcE
            refine pure_ (i := 0) (N := some 79) (v := ?_) (a' := ?_) #[true, false, false, false, false, false, false, false, false, false, false, false, false, false, false, false, false, false, false] rfl rfl (by kernel_rfl) (fun _ _ _ h => h) (Or.inl ⟨by rfl, ?_⟩) ?_ ?_
            rotate_left
            · (intro w'; go_simp; with_reducible rfl)
            rotate_left
            · (simp only [Act.put, List.setIfInBounds_toArray, List.set_cons_zero, List.set_cons_succ, i64_w, i32_w]; rfl)
            refine pure_ (i := 1) (N := some 80) (v := ?_) (a' := ?_) #[true, true, false, false, false, false, false, false, false, false, false, false, false, false, false, false, false, false, false] rfl rfl (by kernel_rfl) (fun _ _ _ h => h) (Or.inl ⟨by rfl, ?_⟩) ?_ ?_
            rotate_left
            · (intro w'; go_simp; with_reducible rfl)
            rotate_left
            · (simp only [Act.put, List.setIfInBounds_toArray, List.set_cons_zero, List.set_cons_succ, i64_w, i32_w]; rfl)
            refine pure_ (i := 2) (N := some 81) (v := ?_) (a' := ?_) #[true, true, true, false, false, false, false, false, false, false, false, false, false, false, false, false, false, false, false] rfl rfl (by kernel_rfl) (fun _ _ _ h => h) (Or.inl ⟨by rfl, ?_⟩) ?_ ?_
            rotate_left
            · (intro w'; go_simp; with_reducible rfl)
            rotate_left
            · (simp only [Act.put, List.setIfInBounds_toArray, List.set_cons_zero, List.set_cons_succ, i64_w, i32_w]; rfl)
            refine take_ (i := 3) (N := some 82) (v := ?_) (a' := ?_) #[true, true, true, true, false, false, false, false, false, false, false, false, false, false, false, false, false, false, false] rfl rfl (by kernel_rfl) (fun _ _ _ h => h) (Or.inl ⟨by rfl, ?_⟩) (by assumption) ?_ ?_
            rotate_left
            · (intro w' hSw; (try dsimp only at hSw); go_split_ands; go_simp; with_reducible rfl)
            rotate_left
            · (simp only [Act.put, List.setIfInBounds_toArray, List.set_cons_zero, List.set_cons_succ, i64_w, i32_w]; rfl)
            refine pure_ (i := 4) (N := some 83) (v := ?_) (a' := ?_) #[true, true, true, true, true, false, false, false, false, false, false, false, false, false, false, false, false, false, false] rfl rfl (by kernel_rfl) (fun _ _ _ h => h) (Or.inl ⟨by rfl, ?_⟩) ?_ ?_
            rotate_left
            · (intro w'; go_simp; with_reducible rfl)
            rotate_left
            · (simp only [Act.put, List.setIfInBounds_toArray, List.set_cons_zero, List.set_cons_succ, i64_w, i32_w]; rfl)
            refine take_ (i := 5) (N := some 84) (v := ?_) (a' := ?_) #[true, true, true, true, true, true, false, false, false, false, false, false, false, false, false, false, false, false, false] rfl rfl (by kernel_rfl) (fun _ _ _ h => h) (Or.inl ⟨by rfl, ?_⟩) (by assumption) ?_ ?_
            rotate_left
            · (intro w' hSw; (try dsimp only at hSw); go_split_ands; go_simp; with_reducible rfl)
            rotate_left
            · (simp only [Act.put, List.setIfInBounds_toArray, List.set_cons_zero, List.set_cons_succ, i64_w, i32_w]; rfl)
            refine pure_ (i := 6) (N := some 85) (v := ?_) (a' := ?_) #[true, true, true, true, true, true, true, false, false, false, false, false, false, false, false, false, false, false, false] rfl rfl (by kernel_rfl) (fun _ _ _ h => h) (Or.inl ⟨by rfl, ?_⟩) ?_ ?_
            rotate_left
            · (intro w'; go_simp; with_reducible rfl)
            rotate_left
            · (simp only [Act.put, List.setIfInBounds_toArray, List.set_cons_zero, List.set_cons_succ, i64_w, i32_w]; rfl)
            refine pure_ (i := 7) (N := some 86) (v := ?_) (a' := ?_) #[true, true, true, true, true, true, true, true, false, false, false, false, false, false, false, false, false, false, false] rfl rfl (by kernel_rfl) (fun _ _ _ h => h) (Or.inl ⟨by rfl, ?_⟩) ?_ ?_
            rotate_left
            · (intro w'; go_simp; with_reducible rfl)
            rotate_left
            · (simp only [Act.put, List.setIfInBounds_toArray, List.set_cons_zero, List.set_cons_succ, i64_w, i32_w]; rfl)
            refine pure_ (i := 8) (N := some 87) (v := ?_) (a' := ?_) #[true, true, true, true, true, true, true, true, true, false, false, false, false, false, false, false, false, false, false] rfl rfl (by kernel_rfl) (fun _ _ _ h => h) (Or.inl ⟨by rfl, ?_⟩) ?_ ?_
            rotate_left
            · (intro w'; go_simp; with_reducible rfl)
            rotate_left
            · (simp only [Act.put, List.setIfInBounds_toArray, List.set_cons_zero, List.set_cons_succ, i64_w, i32_w]; rfl)
            refine take_ (i := 9) (N := some 88) (v := ?_) (a' := ?_) #[true, true, true, true, true, true, true, true, true, true, false, false, false, false, false, false, false, false, false] rfl rfl (by kernel_rfl) (fun _ _ _ h => h) (Or.inl ⟨by rfl, ?_⟩) (by assumption) ?_ ?_
            rotate_left
            · (intro w' hSw; (try dsimp only at hSw); go_split_ands; go_simp; with_reducible rfl)
            rotate_left
            · (simp only [Act.put, List.setIfInBounds_toArray, List.set_cons_zero, List.set_cons_succ, i64_w, i32_w]; rfl)
            refine pure_ (i := 10) (N := some 89) (v := ?_) (a' := ?_) #[true, true, true, true, true, true, true, true, true, true, true, false, false, false, false, false, false, false, false] rfl rfl (by kernel_rfl) (fun _ _ _ h => h) (Or.inl ⟨by rfl, ?_⟩) ?_ ?_
            rotate_left
            · (intro w'; go_simp; with_reducible rfl)
            rotate_left
            · (simp only [Act.put, List.setIfInBounds_toArray, List.set_cons_zero, List.set_cons_succ, i64_w, i32_w]; rfl)
            refine take_ (i := 11) (N := some 90) (v := ?_) (a' := ?_) #[true, true, true, true, true, true, true, true, true, true, true, true, false, false, false, false, false, false, false] rfl rfl (by kernel_rfl) (fun _ _ _ h => h) (Or.inl ⟨by rfl, ?_⟩) (by assumption) ?_ ?_
            rotate_left
            · (intro w' hSw; (try dsimp only at hSw); go_split_ands; go_simp; with_reducible rfl)
            rotate_left
            · (simp only [Act.put, List.setIfInBounds_toArray, List.set_cons_zero, List.set_cons_succ, i64_w, i32_w]; rfl)
            refine pure_ (i := 12) (N := some 91) (v := ?_) (a' := ?_) #[true, true, true, true, true, true, true, true, true, true, true, true, true, false, false, false, false, false, false] rfl rfl (by kernel_rfl) (fun _ _ _ h => h) (Or.inl ⟨by rfl, ?_⟩) ?_ ?_
            rotate_left
            · (intro w'; go_simp; with_reducible rfl)
            rotate_left
            · (simp only [Act.put, List.setIfInBounds_toArray, List.set_cons_zero, List.set_cons_succ, i64_w, i32_w]; rfl)
            refine take_ (i := 13) (N := some 92) (v := ?_) (a' := ?_) #[true, true, true, true, true, true, true, true, true, true, true, true, true, true, false, false, false, false, false] rfl rfl (by kernel_rfl) (fun _ _ _ h => h) (Or.inl ⟨by rfl, ?_⟩) (by assumption) ?_ ?_
            rotate_left
            · (intro w' hSw; (try dsimp only at hSw); go_split_ands; go_simp; with_reducible rfl)
            rotate_left
            · (simp only [Act.put, List.setIfInBounds_toArray, List.set_cons_zero, List.set_cons_succ, i64_w, i32_w]; rfl)
            refine pure_ (i := 14) (N := some 93) (v := ?_) (a' := ?_) #[true, true, true, true, true, true, true, true, true, true, true, true, true, true, true, false, false, false, false] rfl rfl (by kernel_rfl) (fun _ _ _ h => h) (Or.inl ⟨by rfl, ?_⟩) ?_ ?_
            rotate_left
            · (intro w'; go_simp; with_reducible rfl)
            rotate_left
            · (simp only [Act.put, List.setIfInBounds_toArray, List.set_cons_zero, List.set_cons_succ, i64_w, i32_w]; rfl)
            refine one_ (i := 15) (N := some 94) #[true, true, true, true, true, true, true, true, true, true, true, true, true, true, true, true, false, false, false] rfl rfl (by kernel_rfl) (by decide) (fun K hK => ?_)
            refine value_ (v := .slice (some ⟨W14.heap.size, 0, none⟩) 1 1) (w1 := W14.alloc (.cells #[.int .i64 i] 3)) (by rfl) rfl (by go_simp) ?_
            have b11 : Below W14.heap.size W14 (W14.alloc (.cells #[.int .i64 i] 3)) := below_alloc (Below.refl _ _) _
            have h7 := hHeld.1
            have h9 := hHeld.2.1
            have hE := hHeld.2.2
            clear hHeld
            refine hK.out _ _ ⟨pw_cell_below b11 h7, pw_cell_below b11 h9, pw_cell_below b11 hE⟩ (fun hHeld => ?_)
            clear hK K
            refine norm_ (a' := ?_) ?_ ?_
            rotate_left
            · (simp only [Act.put, List.setIfInBounds_toArray, List.set_cons_zero, List.set_cons_succ, i64_w, i32_w]; rfl)
            clear hHeld
            have hsz := HSZ1.out
            refine one_ (i := 16) (N := some 95) #[true, true, true, true, true, true, true, true, true, true, true, true, true, true, true, true, true, false, false] rfl rfl (by kernel_rfl) (by decide) (fun K hK => ?_)
            refine Kd.R_append_step (Kd.int .i64) (w0 := W6) W6.heap.size rfl (.tmp 92) (.tmp 94) 29 3 (.int .i64 0) 8 rfl Try.underlying29 info3 rfl (by decide) (by decide) u1 (fcAt EV1 (a1 : Int)) (i : Int) [.int .i64 i] (fun k => oki1 k ∨ (k ≠ g7 ∧ W14.heap.size ≤ k)) (fun _ => False) rfl rfl rfl (fun _ hk => hk.elim) ?aF ?aO ?aB ?aS ?aL ?_
            case aF => exact fun k hk => .inr ⟨by have := lt_of_block HST13.out.at_; omega, hk⟩
            case aO => exact Kd.R_mono HR.out (fun _ hk => .inl hk)
            case aB => exact HST13.out.b
            case aS => exact HST13.out.b.size
            case aL => omega
            intro v2 w2 ho1 hb1 hg1 hat1
            refine put_dst (some 95) rfl ?_
            have n7 : some g7 ≠ u1.ownBlock := fun e => (HOK.out g7 (HR.out.1 g7 e.symm)).1 rfl
            have nE : some gE' ≠ u1.ownBlock := fun e => (HOK.out gE' (HR.out.1 gE' e.symm)).2 rfl
            have n9 : some g9 ≠ u1.ownBlock := Kd.R_ne HR.out K13.out (by decide)
            refine hK.out _ _ ⟨(cell_after hg1 (lt_of_block HST13.out.at_) n7).trans h7, (cell_after hg1 (lt_of_block K13.out) n9).trans h9, (cell_after hg1 HLE.out nE).trans hE⟩ (fun hHeld => ?_)
            clear hK K
            refine norm_ (a' := ?_) ?_ ?_
            rotate_left
            · (simp only [Act.put, List.setIfInBounds_toArray, List.set_cons_zero, List.set_cons_succ, i64_w, i32_w]; rfl)
            clear hHeld
            obtain ⟨hst, cur1, hcur, hcs⟩ := St1.put HST13.out (a := (a1 : Int)) (i := (i : Int)) (by omega) (by show (a1 : Int) < (EV1.length : Int); rw [HLEN1.out]; omega) rfl HLE.out HBE.out HNE.out HR.out HOK.out HH.out (Below.refl _ _) ho1 hg1
            rw [Int.toNat_natCast] at hst hcs
            have HVAL := Aside0.mk (Kd.R_val ho1)
            have hst3 : St1 W6 (w2.setCells gE' a1 [v2]) g7 (lvFin V F X ES FN RD SH A0 A1 A2 (some ade) Af Ar A6 (some ⟨gE', 0, none⟩) none c0 c1 c2 ce cf cr c6 c7 0 (starsTo V.length ES (i + 1)) []) := by
              rw [← star_step HEDE.out hk0 hk1, HEV1.out]
              exact hst
            have HST16 := Aside0.mk hst3
            have HCUR := Aside0.mk hcur
            have HCS := Aside0.mk hcs
            clear hst hst3 hcur hcs ho1 hb1 hg1 hat1 n7 nE n9 h7 h9 hE hsz b11 HR HOK HH HLE HBE HNE HST13 K13
            refine pure_ (i := 17) (N := some 96) (v := ?_) (a' := ?_) #[true, true, true, true, true, true, true, true, true, true, true, true, true, true, true, true, true, true, false] rfl rfl (by kernel_rfl) (fun _ _ _ h => h) (Or.inl ⟨by rfl, ?_⟩) ?_ ?_
            rotate_left
            · (intro w'; go_simp; with_reducible rfl)
            rotate_left
            · (simp only [Act.put, List.setIfInBounds_toArray, List.set_cons_zero, List.set_cons_succ, i64_w, i32_w]; rfl)
            refine last_ (i := 18) (N := none) #[true, true, true, true, true, true, true, true, true, true, true, true, true, true, true, true, true, true, true] rfl rfl (by kernel_rfl) (by decide) (fun K hK => ?_)
            refine skip_ (by rfl) rfl (run_store_own (g := gE') (j := a1) 29 (.tmp 96) (.tmp 95) rfl v2 [v2] rfl rfl HVAL.out.1 infoS29 (by simpa using HVAL.out.2) HCUR.out HCS.out) ?_
            refine hK.out _ _ ?_
            clear hK K
            refine done_ (by kernel_rfl) ?_
            obtain ⟨W16, hW16⟩ : ∃ W, w2.setCells gE' a1 [v2] = W := ⟨_, rfl⟩
            rw [hW16] at HST16 ⊢
            clear hW16 hd1 hd2 HCUR HCS HVAL HSZ1 HEV1 HLEN1 HLEN
            go_wp2_with fail
            go_roundw
            case rel => exact ⟨i + 1, by omega, by go_num, HST16⟩
            case measure => simp [intOf]; omega
          · obtain rfl : i = ES.length := by omega
            clear hlt hi
            have HST2 := Aside0.mk (HST.out.next rfl rfl rfl)
            have hkc : wr.cell? ⟨w.heap.size, 1, none⟩ = some (.slice A1 F.length c1) := (blk_cell (HL6'.out.step HST.out.b).cage 1).trans rfl
            have hFl := small_len HS.out
            have HFS : Aside0 (∀ k : Nat, k < F.length → FaceOk V.length (fcAt F (k : Int))) := ⟨fun k hk => facesOk HSF.out.1 k hk⟩
            clear HST
            go_wp2_with fail
            clear hkc
            obtain ⟨wo, hwo⟩ : ∃ wo : World, wo = wr := ⟨_, rfl⟩
            subst hwo
            go_loopw [101] (fun v101 wr => ∃ (k : Nat) (A8 : Option Addr) (c8 : Nat), k ≤ F.length ∧ v101 = .int .i64 k ∧ Aside0 (St2 W6 wr g7 (lvFin V F X ES FN RD SH A0 A1 A2 Ae Af Ar A6 A7 A8 c0 c1 c2 ce cf cr c6 c7 c8 (starsTo V.length ES ES.length) ((F.take k).map (facePt V)))))
              (fun v101 _ => F.length - (intOf v101).toNat)
            case atStart => exact ⟨0, none, 0, Nat.zero_le _, rfl, HST2⟩
            case round =>
              clear HST2
              obtain ⟨k, A8, c8, hk, rfl, HSG⟩ := hrel
              by_cases hlt : k < F.length
              · have HLr := Aside0.mk (HL6'.out.step HSG.out.b)
                obtain ⟨ad, A0f, c0f, e', hcell', hl0, hC⟩ := at_face (Kd.C_below HF.out HLr.out.b) (k : Int) (by omega) (by omega)
                cases e'
                rw [Int.toNat_natCast] at hcell'
                have HFO := Aside0.mk (HFS.out k hlt)
                have HCF := Aside0.mk hC
                have hFC : Aside0 (fcAt F (k : Int) = F[k]) := ⟨by simp [fcAt, List.getD_eq_getElem?_getD, hlt]⟩
                generalize hfc : fcAt F (k : Int) = fc at hcell' hl0 hC HFO HCF hFC
                clear hC hfc
                have HFIN := Aside0.mk (fun (W : World) (h : St2 W6 W g7 (lvFin V F X ES FN RD SH A0 (some ad) A2 Ae Af Ar A6 A7 A8 c0 c1 c2 ce cf cr c6 c7 c8 (starsTo V.length ES ES.length) ((F.take k).map (facePt V)))) => h.finer HL6.out HV.out HN3.out.1 HN3.out.2.1 HN3.out.2.2)
                obtain ⟨p, hp⟩ : ∃ p, facePt V fc = p := ⟨_, rfl⟩
                have HP := Aside0.mk hp
                have hln : ((F.take k).map (facePt V)).length = k := by simp; omega
                have hc8 : wr.drew.cell? ⟨g7, 8, none⟩ = some (.slice A8 k c8) := by
                  have := (blk_cell (blk_drew HSG.out.at_) 8).trans (rfl : _ = some (Value.slice A8 ((F.take k).map (facePt V)).length c8))
                  rwa [hln] at this
                have HLN := Aside0.mk hln
                have HC8 := Aside0.mk hc8
                have HSU := Aside0.mk (HSG.out.step (below_drew (Below.refl _ _)))
                have HCU := Aside0.mk (Kd.C_below HCF.out (below_drew (Below.refl _ wr)))
                clear hp hln hc8 HSG HCF HLr
                go_wp2_with fail
                refine start_ (n := 13) (S := (fun w' => w'.cell? ⟨g7, 8, none⟩ = some (.slice A8 k c8))) (ds := [12]) #[false, false, false, false, false, false, false, false, false, false, false, false, false] (by kernel_rfl) rfl rfl HC8.out (fun hHeld => ?_)
                generalize wr.drew = U1 at hHeld HC8 HSU HCU ⊢
                refine pure_ (i := 0) (N := some 105) (v := ?_) (a' := ?_) #[true, false, false, false, false, false, false, false, false, false, false, false, false] rfl rfl (by kernel_rfl) (fun _ _ _ h => h) (Or.inl ⟨by rfl, ?_⟩) ?_ ?_
                rotate_left
                · (intro w'; go_simp; with_reducible rfl)
                rotate_left
                · (simp only [Act.put, List.setIfInBounds_toArray, List.set_cons_zero, List.set_cons_succ, i64_w, i32_w]; rfl)
                refine pure_ (i := 1) (N := some 106) (v := ?_) (a' := ?_) #[true, true, false, false, false, false, false, false, false, false, false, false, false] rfl rfl (by kernel_rfl) (fun _ _ _ h => h) (Or.inl ⟨by rfl, ?_⟩) ?_ ?_
                rotate_left
                · (intro w'; go_simp; with_reducible rfl)
                rotate_left
                · (simp only [Act.put, List.setIfInBounds_toArray, List.set_cons_zero, List.set_cons_succ, i64_w, i32_w]; rfl)
                refine pure_ (i := 2) (N := some 107) (v := ?_) (a' := ?_) #[true, true, true, false, false, false, false, false, false, false, false, false, false] rfl rfl (by kernel_rfl) (fun _ _ _ h => h) (Or.inl ⟨by rfl, ?_⟩) ?_ ?_
                rotate_left
                · (intro w'; go_simp; with_reducible rfl)
                rotate_left
                · (simp only [Act.put, List.setIfInBounds_toArray, List.set_cons_zero, List.set_cons_succ, i64_w, i32_w]; rfl)
                refine pure_ (i := 3) (N := some 108) (v := ?_) (a' := ?_) #[true, true, true, true, false, false, false, false, false, false, false, false, false] rfl rfl (by kernel_rfl) (fun _ _ _ h => h) (Or.inl ⟨by rfl, ?_⟩) ?_ ?_
                rotate_left
                · (intro w'; go_simp; with_reducible rfl)
                rotate_left
                · (simp only [Act.put, List.setIfInBounds_toArray, List.set_cons_zero, List.set_cons_succ, i64_w, i32_w]; rfl)
                refine take_ (i := 4) (N := some 109) (v := ?_) (a' := ?_) #[true, true, true, true, true, false, false, false, false, false, false, false, false] rfl rfl (by kernel_rfl) (fun _ _ _ h => h) (Or.inl ⟨by rfl, ?_⟩) (by assumption) ?_ ?_
                rotate_left
                · (intro w' hSw; (try dsimp only at hSw); go_split_ands; go_simp; with_reducible rfl)
                rotate_left
                · (simp only [Act.put, List.setIfInBounds_toArray, List.set_cons_zero, List.set_cons_succ, i64_w, i32_w]; rfl)
                refine pure_ (i := 5) (N := some 110) (v := ?_) (a' := ?_) #[true, true, true, true, true, true, false, false, false, false, false, false, false] rfl rfl (by kernel_rfl) (fun _ _ _ h => h) (Or.inl ⟨by rfl, ?_⟩) ?_ ?_
                rotate_left
                · (intro w'; go_simp; with_reducible rfl)
                rotate_left
                · (simp only [Act.put, List.setIfInBounds_toArray, List.set_cons_zero, List.set_cons_succ, i64_w, i32_w]; rfl)
                refine pure_ (i := 6) (N := some 111) (v := ?_) (a' := ?_) #[true, true, true, true, true, true, true, false, false, false, false, false, false] rfl rfl (by kernel_rfl) (fun _ _ _ h => h) (Or.inl ⟨by rfl, ?_⟩) ?_ ?_
                rotate_left
                · (intro w'; go_simp; with_reducible rfl)
                rotate_left
                · (simp only [Act.put, List.setIfInBounds_toArray, List.set_cons_zero, List.set_cons_succ, i64_w, i32_w]; rfl)
                have HCALL : Aside0 (Calls Try.prog 34 #[.pointer (some ⟨g7, 0, none⟩), .slice A0f fc.length c0f] U1 fun e w' => e = .returned (.agg #[.int .i64 p.f0, .int .i64 p.f1, .int .i64 p.f2]) ∧ Below U1.heap.size U1 w') := ⟨by
                  have h := face_pt_calls U1 g7 _ A0f c0f fc (HFIN.out _ HSU.out) HCU.out (fun v hv => ⟨HFO.out.lo v hv, HFO.out.hi v hv⟩)
                  rw [show facePt (lvFin V F X ES FN RD SH A0 (some ad) A2 Ae Af Ar A6 A7 A8 c0 c1 c2 ce cf cr c6 c7 c8 (starsTo V.length ES ES.length) ((F.take k).map (facePt V))).V fc = p from HP.out] at h
                  exact h⟩
                refine one_ (i := 7) (N := some 112) #[true, true, true, true, true, true, true, true, false, false, false, false, false] rfl rfl (by kernel_rfl) (by decide) (fun K hK => ?_)
                refine goes_ Try.func34 (by kernel_rfl) rfl #[.pointer (some ⟨g7, 0, none⟩), .slice A0f fc.length c0f] (by rfl) rfl rfl (by (try simp only [List.map_toArray, List.map_cons, List.map_nil]); rfl) ?_
                refine HCALL.out.mono ?_
                rintro e U2 ⟨rfl, hb2⟩
                refine ⟨_, rfl, ?_⟩
                have HS2 := Aside0.mk (HSU.out.step hb2)
                have HC2 := Aside0.mk (pw_cell_below hb2 HC8.out)
                clear hHeld hb2 HCALL HC8 HSU HCU
                refine hK.out _ _ HC2.out (fun hHeld => ?_)
                clear hK K
                refine norm_ (a' := ?_) ?_ ?_
                rotate_left
                · (simp only [Act.put, List.setIfInBounds_toArray, List.set_cons_zero, List.set_cons_succ, i64_w, i32_w]; rfl)
                clear hHeld
                refine one_ (i := 8) (N := some 113) #[true, true, true, true, true, true, true, true, true, false, false, false, false] rfl rfl (by kernel_rfl) (by decide) (fun K hK => ?_)
                refine value_ (v := .slice (some ⟨U2.heap.size, 0, none⟩) 1 1) (w1 := U2.alloc (.cells #[.int .i64 p.f0, .int .i64 p.f1, .int .i64 p.f2] 42)) (by rfl) rfl (by go_simp) ?_
                have b11 : Below U2.heap.size U2 (U2.alloc (.cells #[.int .i64 p.f0, .int .i64 p.f1, .int .i64 p.f2] 42)) := below_alloc (Below.refl _ _) _
                refine hK.out _ _ (pw_cell_below b11 HC2.out) (fun hHeld => ?_)
                clear hK K
                refine norm_ (a' := ?_) ?_ ?_
                rotate_left
                · (simp only [Act.put, List.setIfInBounds_toArray, List.set_cons_zero, List.set_cons_succ, i64_w, i32_w]; rfl)
                clear hHeld b11
                have HFV : Aside0 (Kd.R k42 42 U2 W6.heap.size (fun _ => True) (.slice A8 k c8) ((F.take k).map (facePt V))) := ⟨by
                  have := HS2.out.fv
                  rw [show (lvFin V F X ES FN RD SH A0 (some ad) A2 Ae Af Ar A6 A7 A8 c0 c1 c2 ce cf cr c6 c7 c8 (starsTo V.length ES ES.length) ((F.take k).map (facePt V))).FV.length = k from HLN.out] at this
                  exact this⟩
                have hll := HLN.out
                refine one_ (i := 9) (N := some 114) #[true, true, true, true, true, true, true, true, true, true, false, false, false] rfl rfl (by kernel_rfl) (by decide) (fun K hK => ?_)
                refine Kd.R_append_step k42 (w0 := W6) W6.heap.size rfl (.tmp 109) (.tmp 113) 22 42 (.agg #[.int .i64 0, .int .i64 0, .int .i64 0]) 24 rfl Try.underlying22 info42 rfl (by decide) (by decide) (.slice A8 k c8) ((F.take k).map (facePt V)) p [.int .i64 p.f0, .int .i64 p.f1, .int .i64 p.f2] (fun _ => True) (fun _ => False) rfl rfl (k42_mkM _ _ _ p) (fun _ hk => hk.elim) (fun _ _ => trivial) HFV.out HS2.out.b HS2.out.b.size (by omega) ?_
                intro v1 u3 ho1 hb1 hg1 hat1
                obtain ⟨A9, c9, rfl⟩ := Kd.R_slice ho1
                obtain ⟨n9, hn9⟩ : ∃ n, ((F.take k).map (facePt V) ++ [p]).length = n := ⟨_, rfl⟩
                rw [hn9] at ho1 hat1 ⊢
                refine put_dst (some 114) rfl ?_
                have n7 : some g7 ≠ (Value.slice A8 k c8).ownBlock := Kd.R_ne HFV.out HS2.out.at_ (by decide)
                have hob := (hg1.block _ (lt_of_block HS2.out.at_) n7).trans HS2.out.at_
                have hgz : U2.grownBy u3 (Value.slice A8 (lvFin V F X ES FN RD SH A0 (some ad) A2 Ae Af Ar A6 A7 A8 c0 c1 c2 ce cf cr c6 c7 c8 (starsTo V.length ES ES.length) ((F.take k).map (facePt V))).FV.length c8).ownBlock := by
                  rw [show (lvFin V F X ES FN RD SH A0 (some ad) A2 Ae Af Ar A6 A7 A8 c0 c1 c2 ce cf cr c6 c7 c8 (starsTo V.length ES ES.length) ((F.take k).map (facePt V))).FV.length = k from HLN.out]
                  exact hg1
                have HOB := Aside0.mk hob
                have HGZ := Aside0.mk hgz
                have HO1 := Aside0.mk ho1
                refine hK.out _ _ ((cell_after hg1 (lt_of_block HS2.out.at_) n7).trans HC2.out) (fun hHeld => ?_)
                clear hK K
                refine norm_ (a' := ?_) ?_ ?_
                rotate_left
                · (simp only [Act.put, List.setIfInBounds_toArray, List.set_cons_zero, List.set_cons_succ, i64_w, i32_w]; rfl)
                clear hHeld ho1 hb1 hg1 hat1 n7 hob hgz hn9 hll HC2 HFV
                refine pure_ (i := 10) (N := some 115) (v := ?_) (a' := ?_) #[true, true, true, true, true, true, true, true, true, true, true, false, false] rfl rfl (by kernel_rfl) (fun _ _ _ h => h) (Or.inl ⟨by rfl, ?_⟩) ?_ ?_
                rotate_left
                · (intro w'; go_simp; with_reducible rfl)
                rotate_left
                · (simp only [Act.put, List.setIfInBounds_toArray, List.set_cons_zero, List.set_cons_succ, i64_w, i32_w]; rfl)
                refine pure_ (i := 11) (N := some 116) (v := ?_) (a' := ?_) #[true, true, true, true, true, true, true, true, true, true, true, true, false] rfl rfl (by kernel_rfl) (fun _ _ _ h => h) (Or.inl ⟨by rfl, ?_⟩) ?_ ?_
                rotate_left
                · (intro w'; go_simp; with_reducible rfl)
                rotate_left
                · (simp only [Act.put, List.setIfInBounds_toArray, List.set_cons_zero, List.set_cons_succ, i64_w, i32_w]; rfl)
                refine last_ (i := 12) (N := none) #[true, true, true, true, true, true, true, true, true, true, true, true, true] rfl rfl (by kernel_rfl) (by decide) (fun K hK => ?_)
                refine skip_ (by rfl) rfl (run_store_own (g := g7) (j := 8) 22 (.tmp 116) (.tmp 114) rfl (.slice A9 n9 c9) [.slice A9 n9 c9] rfl rfl rfl infoS22 (by simp [Value.oneCell']) HOB.out (by simp)) ?_
                refine hK.out _ _ ?_
                clear hK K
                refine done_ (by kernel_rfl) ?_
                obtain ⟨hgw, cur, hcur, hcl⟩ := set_own (j := 8) [.slice A9 n9 c9] HOB.out (by simp)
                have HST4 := Aside0.mk (HS2.out.put HO1.out HGZ.out hgw ⟨cur, hcur, by rw [hcl]; rfl⟩)
                obtain ⟨U4, hU4⟩ : ∃ U, u3.setCells g7 8 [.slice A9 n9 c9] = U := ⟨_, rfl⟩
                rw [hU4] at HST4 ⊢
                clear hU4 hgw hcur hcl HOB HGZ HO1 HS2 HFIN
                go_wp2_with fail
                go_roundw
                case rel =>
                  refine ⟨k + 1, A9, c9, by omega, by go_num, ⟨?_⟩⟩
                  rw [take_map_succ _ _ _ hlt, ← hFC.out, HP.out]
                  exact HST4.out
                case measure => simp [intOf]; omega
              · obtain rfl : k = F.length := by omega
                clear hlt hk
                have hkc : wr.cell? ⟨w.heap.size, 0, none⟩ = some (.slice A0 V.length c0) := (blk_cell (HL6'.out.step HSG.out.b).cage 0).trans rfl
                rw [List.take_length] at HSG
                obtain ⟨D, hD⟩ : ∃ D, (lvFin V F X ES FN RD SH A0 A1 A2 Ae Af Ar A6 A7 A8 c0 c1 c2 ce cf cr c6 c7 c8 (starsTo V.length ES ES.length) (F.map (facePt V))) = D := ⟨_, rfl⟩
                have hFR : FinerR wr g7 D := by
                  rw [← hD]
                  exact HSG.out.finer HL6.out HV.out HN3.out.1 HN3.out.2.1 HN3.out.2.2
                have hBT : Built D F := by
                  rw [← hD]
                  exact ⟨HS.out, HSF.out.1, hv, HSF.out.2.1, HSF.out.2.2.1, ⟨X, HOM.out⟩, rfl, by simp [lvFin]⟩
                have hDV : D.V = V ∧ D.ES = ES ∧ D.SH = SH ∧ D.F = F ∧ D.FV = F.map (facePt V) := by
                  rw [← hD]
                  exact ⟨rfl, rfl, rfl, rfl, rfl⟩
                have hDL : levelV D = levelV (finOf V F X ES FN RD SH) ∧ levelF D = levelF (finOf V F X ES FN RD SH) ∧ levelX D = levelX (finOf V F X ES FN RD SH) := by
                  rw [← hD]
                  exact ⟨rfl, rfl, rfl⟩
                have HFR := Aside0.mk hFR
                have HBT := Aside0.mk hBT
                have HDV := Aside0.mk hDV
                have HDL := Aside0.mk hDL
                have HLW := Aside0.mk (HL6'.out.step HSG.out.b)
                clear hFR hBT hDV hDL hD HSG
                have b3 : Below wr.heap.size wr (wr.alloc (.cells #[.slice none 0 0, .slice none 0 0, .slice none 0 0] 26)) := below_alloc (Below.refl _ _) _
                have HST3 := Aside0.mk (St3.made wr)
                have HB3 := Aside0.mk b3
                have hkc := pw_cell_below b3 hkc
                clear b3
                go_wp2_with fail
                clear hkc
                obtain ⟨Wc, hWc⟩ : ∃ Wc : World, Wc = wr := ⟨_, rfl⟩
                subst hWc
                go_loopw [121] (fun v121 wr => ∃ (k : Nat) (v0 : Value), k ≤ V.length ∧ v121 = .int .i64 k ∧ Aside0 (St3 Wc wr v0 (.slice none 0 0) (.slice none 0 0) ((List.range k).map (fun v : Nat => vertexPt D v)) [] []))
                  (fun v121 _ => V.length - (intOf v121).toNat)
                case atStart => exact ⟨0, _, Nat.zero_le _, rfl, HST3⟩
                case round =>
                  clear HST3
                  obtain ⟨k, v0, hk, rfl, HT⟩ := hrel
                  by_cases hlt : k < V.length
                  · obtain ⟨A8, c8, hv0⟩ := Kd.R_slice HT.out.r0
                    obtain ⟨vs, hvs⟩ : ∃ l, (List.range k).map (fun v : Nat => vertexPt D v) = l := ⟨_, rfl⟩
                    have hvl : vs.length = k := by rw [← hvs]; simp
                    rw [hvs, hvl] at hv0
                    subst hv0
                    rw [hvs] at HT
                    have HVS := Aside0.mk hvs
                    obtain ⟨p, hp⟩ : ∃ p, vertexPt D (k : Int) = p := ⟨_, rfl⟩
                    have HP := Aside0.mk hp
                    have HC8 : Aside0 (wr.drew.cell? ⟨Wc.heap.size, 0, none⟩ = some (.slice A8 k c8)) := ⟨(blk_cell (blk_drew HT.out.at_) 0).trans rfl⟩
                    have HSU := Aside0.mk (HT.out.step (below_drew (Below.refl _ _)))
                    clear hvs hp HT
                    go_wp2_with fail
                    refine start_ (n := 9) (S := (fun w' => w'.cell? ⟨Wc.heap.size, 0, none⟩ = some (.slice A8 k c8))) (ds := [8]) #[false, false, false, false, false, false, false, false, false] (by kernel_rfl) rfl rfl HC8.out (fun hHeld => ?_)
                    generalize wr.drew = U1 at hHeld HC8 HSU ⊢
                    refine pure_ (i := 0) (N := some 124) (v := ?_) (a' := ?_) #[true, false, false, false, false, false, false, false, false] rfl rfl (by kernel_rfl) (fun _ _ _ h => h) (Or.inl ⟨by rfl, ?_⟩) ?_ ?_
                    rotate_left
                    · (intro w'; go_simp; with_reducible rfl)
                    rotate_left
                    · (simp only [Act.put, List.setIfInBounds_toArray, List.set_cons_zero, List.set_cons_succ, i64_w, i32_w]; rfl)
                    refine take_ (i := 1) (N := some 125) (v := ?_) (a' := ?_) #[true, true, false, false, false, false, false, false, false] rfl rfl (by kernel_rfl) (fun _ _ _ h => h) (Or.inl ⟨by rfl, ?_⟩) (by assumption) ?_ ?_
                    rotate_left
                    · (intro w' hSw; (try dsimp only at hSw); go_split_ands; go_simp; with_reducible rfl)
                    rotate_left
                    · (simp only [Act.put, List.setIfInBounds_toArray, List.set_cons_zero, List.set_cons_succ, i64_w, i32_w]; rfl)
                    refine pure_ (i := 2) (N := some 126) (v := ?_) (a' := ?_) #[true, true, true, false, false, false, false, false, false] rfl rfl (by kernel_rfl) (fun _ _ _ h => h) (Or.inl ⟨by rfl, ?_⟩) ?_ ?_
                    rotate_left
                    · (intro w'; go_simp; with_reducible rfl)
                    rotate_left
                    · (simp only [Act.put, List.setIfInBounds_toArray, List.set_cons_zero, List.set_cons_succ, i64_w, i32_w]; rfl)
                    refine pure_ (i := 3) (N := some 127) (v := ?_) (a' := ?_) #[true, true, true, true, false, false, false, false, false] rfl rfl (by kernel_rfl) (fun _ _ _ h => h) (Or.inl ⟨by rfl, ?_⟩) ?_ ?_
                    rotate_left
                    · (intro w'; go_simp; with_reducible rfl)
                    rotate_left
                    · (simp only [Act.put, List.setIfInBounds_toArray, List.set_cons_zero, List.set_cons_succ, i64_w, i32_w]; rfl)
                    have HCALL : Aside0 (Calls Try.prog 35 #[.pointer (some ⟨g7, 0, none⟩), .int .i64 k] U1 fun e w' => e = .returned (.agg #[.int .i64 p.f0, .int .i64 p.f1, .int .i64 p.f2]) ∧ Below U1.heap.size U1 w') := ⟨by
                      have h := vertex_calls U1 g7 D (k : Int) (HFR.out.below HSU.out.b) (vtx_ok HBT.out k (by rw [HDV.out.1]; exact hlt))
                      rw [HP.out] at h
                      exact h⟩
                    refine one_ (i := 4) (N := some 128) #[true, true, true, true, true, false, false, false, false] rfl rfl (by kernel_rfl) (by decide) (fun K hK => ?_)
                    refine goes_ Try.func35 (by kernel_rfl) rfl #[.pointer (some ⟨g7, 0, none⟩), .int .i64 k] (by rfl) rfl rfl (by (try simp only [List.map_toArray, List.map_cons, List.map_nil]); rfl) ?_
                    refine HCALL.out.mono ?_
                    rintro e U2 ⟨rfl, hb2⟩
                    refine ⟨_, rfl, ?_⟩
                    have HS2 := Aside0.mk (HSU.out.step hb2)
                    have HC2 := Aside0.mk (pw_cell_below hb2 HC8.out)
                    clear hHeld hb2 HCALL HC8 HSU
                    refine hK.out _ _ HC2.out (fun hHeld => ?_)
                    clear hK K
                    refine norm_ (a' := ?_) ?_ ?_
                    rotate_left
                    · (simp only [Act.put, List.setIfInBounds_toArray, List.set_cons_zero, List.set_cons_succ, i64_w, i32_w]; rfl)
                    clear hHeld
                    refine one_ (i := 5) (N := some 129) #[true, true, true, true, true, true, false, false, false] rfl rfl (by kernel_rfl) (by decide) (fun K hK => ?_)
                    refine value_ (v := .slice (some ⟨U2.heap.size, 0, none⟩) 1 1) (w1 := U2.alloc (.cells #[.int .i64 p.f0, .int .i64 p.f1, .int .i64 p.f2] 42)) (by rfl) rfl (by go_simp) ?_
                    have b11 : Below U2.heap.size U2 (U2.alloc (.cells #[.int .i64 p.f0, .int .i64 p.f1, .int .i64 p.f2] 42)) := below_alloc (Below.refl _ _) _
                    refine hK.out _ _ (pw_cell_below b11 HC2.out) (fun hHeld => ?_)
                    clear hK K
                    refine norm_ (a' := ?_) ?_ ?_
                    rotate_left
                    · (simp only [Act.put, List.setIfInBounds_toArray, List.set_cons_zero, List.set_cons_succ, i64_w, i32_w]; rfl)
                    clear hHeld b11
                    refine one_ (i := 6) (N := some 130) #[true, true, true, true, true, true, true, false, false] rfl rfl (by kernel_rfl) (by decide) (fun K hK => ?_)
                    refine Kd.R_append_step k42 (w0 := Wc) Wc.heap.size rfl (.tmp 125) (.tmp 129) 22 42 (.agg #[.int .i64 0, .int .i64 0, .int .i64 0]) 24 rfl Try.underlying22 info42 rfl (by decide) (by decide) (.slice A8 k c8) vs p [.int .i64 p.f0, .int .i64 p.f1, .int .i64 p.f2] (fun _ => True) (fun _ => False) rfl rfl (k42_mkM _ _ _ p) (fun _ hk => hk.elim) (fun _ _ => trivial) HS2.out.r0 HS2.out.b HS2.out.b.size (by omega) ?_
                    intro v1 u3 ho1 hb1 hg1 hat1
                    refine put_dst (some 130) rfl ?_
                    have n7 : some Wc.heap.size ≠ (Value.slice A8 k c8).ownBlock := Kd.R_ne HS2.out.r0 HS2.out.at_ (by decide)
                    have HOB := Aside0.mk ((hg1.block _ (lt_of_block HS2.out.at_) n7).trans HS2.out.at_)
                    have HGZ := Aside0.mk hg1
                    have HO1 := Aside0.mk ho1
                    have HVAL := Aside0.mk (Kd.R_val ho1)
                    refine hK.out _ _ ((cell_after hg1 (lt_of_block HS2.out.at_) n7).trans HC2.out) (fun hHeld => ?_)
                    clear hK K
                    refine norm_ (a' := ?_) ?_ ?_
                    rotate_left
                    · (simp only [Act.put, List.setIfInBounds_toArray, List.set_cons_zero, List.set_cons_succ, i64_w, i32_w]; rfl)
                    clear hHeld ho1 hb1 hg1 hat1 n7 HC2
                    refine pure_ (i := 7) (N := some 131) (v := ?_) (a' := ?_) #[true, true, true, true, true, true, true, true, false] rfl rfl (by kernel_rfl) (fun _ _ _ h => h) (Or.inl ⟨by rfl, ?_⟩) ?_ ?_
                    rotate_left
                    · (intro w'; go_simp; with_reducible rfl)
                    rotate_left
                    · (simp only [Act.put, List.setIfInBounds_toArray, List.set_cons_zero, List.set_cons_succ, i64_w, i32_w]; rfl)
                    refine last_ (i := 8) (N := none) #[true, true, true, true, true, true, true, true, true] rfl rfl (by kernel_rfl) (by decide) (fun K hK => ?_)
                    refine skip_ (by rfl) rfl (run_store_own (g := Wc.heap.size) (j := 0) 22 (.tmp 131) (.tmp 130) rfl v1 [v1] rfl rfl HVAL.out.1 infoS22 (by simpa using HVAL.out.2) HOB.out (by simp)) ?_
                    refine hK.out _ _ ?_
                    clear hK K
                    refine done_ (by kernel_rfl) ?_
                    obtain ⟨hgw, cur, hcur, hcl⟩ := set_own (j := 0) [v1] HOB.out (by simp)
                    have HST4 := Aside0.mk (HS2.out.put0 HO1.out HGZ.out hgw ⟨cur, hcur, by rw [hcl]; rfl⟩)
                    obtain ⟨U4, hU4⟩ : ∃ U, u3.setCells Wc.heap.size 0 [v1] = U := ⟨_, rfl⟩
                    rw [hU4] at HST4 ⊢
                    clear hU4 hgw hcur hcl HOB HGZ HO1 HS2 HVAL
                    go_wp2_with fail
                    go_roundw
                    case rel =>
                      refine ⟨k + 1, v1, by omega, by go_num, ⟨?_⟩⟩
                      rw [List.range_succ, List.map_append, HVS.out, List.map_cons, List.map_nil, HP.out]
                      exact HST4.out
                    case measure => simp [intOf]; omega
                  · obtain rfl : k = V.length := by omega
                    clear hlt hk
                    have hkc : wr.cell? ⟨g4, 0, none⟩ = some (.slice Ae ES.length ce) := (blk_cell (HLW.out.step HT.out.b).topo 0).trans rfl
                    go_wp2_with fail
                    clear hkc
                    have HST5 : Aside0 (St3 Wc wr v0 (.slice none 0 0) (.slice none 0 0) ((List.range V.length).map (fun v : Nat => vertexPt D v) ++ (List.range 0).map (fun i : Nat => edgePt D.V D.FV (rd_T47 D.ES i) (rd D.SH i))) [] ((List.range 0).flatMap (fun i : Nat => creasesOf D.V.length (rd_T47 D.ES i) (rd D.SH i) i))) := ⟨by simpa using HT.out⟩
                    clear HT
                    obtain ⟨wo, hwo⟩ : ∃ wo : World, wo = wr := ⟨_, rfl⟩
                    subst hwo
                    go_loopw [136] (fun v136 wr => ∃ (k : Nat) (v0 v2 : Value), k ≤ ES.length ∧ v136 = .int .i64 k ∧ Aside0 (St3 Wc wr v0 (.slice none 0 0) v2 ((List.range V.length).map (fun v : Nat => vertexPt D v) ++ (List.range k).map (fun i : Nat => edgePt D.V D.FV (rd_T47 D.ES i) (rd D.SH i))) [] ((List.range k).flatMap (fun i : Nat => creasesOf D.V.length (rd_T47 D.ES i) (rd D.SH i) i))))
                      (fun v136 _ => ES.length - (intOf v136).toNat)
                    case atStart => exact ⟨0, _, _, Nat.zero_le _, rfl, HST5⟩
                    case round =>
                      clear HST5
                      obtain ⟨k, v0, v2, hk, rfl, HT⟩ := hrel
                      by_cases hlt : k < ES.length
                      · have HEK := Aside0.mk (rd_edge HBT.out (j := k) (by rw [HDV.out.2.1]; exact hlt))
                        have HSF4 : Aside0 (rd D.SH (k : Int) = 0 → 0 ≤ (rd_T47 D.ES (k : Int)).f2 ∧ (rd_T47 D.ES (k : Int)).f2 < D.FV.length ∧ 0 ≤ (rd_T47 D.ES (k : Int)).f3 ∧ (rd_T47 D.ES (k : Int)).f3 < D.FV.length) := ⟨fun h => by
                          have := soft_faces HBT.out (i := k) (by rw [HDV.out.2.1]; exact hlt) h
                          rw [HBT.out.fv]
                          omega⟩
                        obtain ⟨A8, c8, hv0⟩ := Kd.R_slice HT.out.r0
                        obtain ⟨vs, hvs⟩ : ∃ l, (List.range V.length).map (fun v : Nat => vertexPt D v) ++ (List.range k).map (fun i : Nat => edgePt D.V D.FV (rd_T47 D.ES i) (rd D.SH i)) = l := ⟨_, rfl⟩
                        have hvl : vs.length = V.length + k := by rw [← hvs]; simp
                        rw [hvs, hvl] at hv0
                        subst hv0
                        rw [hvs] at HT
                        have HVS := Aside0.mk hvs
                        obtain ⟨p, hp⟩ : ∃ p, edgePt D.V D.FV (rd_T47 D.ES (k : Int)) (rd D.SH (k : Int)) = p := ⟨_, rfl⟩
                        have HP := Aside0.mk hp
                        have HC8 : Aside0 (wr.drew.cell? ⟨Wc.heap.size, 0, none⟩ = some (.slice A8 (V.length + k) c8)) := ⟨(blk_cell (blk_drew HT.out.at_) 0).trans rfl⟩
                        have HSU := Aside0.mk (HT.out.step (below_drew (Below.refl _ _)))
                        clear hvs hp HT
                        go_wp2_with fail
                        refine start_ (n := 9) (S := (fun w' => w'.cell? ⟨Wc.heap.size, 0, none⟩ = some (.slice A8 (V.length + k) c8))) (ds := [8]) #[false, false, false, false, false, false, false, false, false] (by kernel_rfl) rfl rfl HC8.out (fun hHeld => ?_)
                        generalize wr.drew = U1 at hHeld HC8 HSU ⊢
                        refine pure_ (i := 0) (N := some 139) (v := ?_) (a' := ?_) #[true, false, false, false, false, false, false, false, false] rfl rfl (by kernel_rfl) (fun _ _ _ h => h) (Or.inl ⟨by rfl, ?_⟩) ?_ ?_
                        rotate_left
                        · (intro w'; go_simp; with_reducible rfl)
                        rotate_left
                        · (simp only [Act.put, List.setIfInBounds_toArray, List.set_cons_zero, List.set_cons_succ, i64_w, i32_w]; rfl)
                        refine take_ (i := 1) (N := some 140) (v := ?_) (a' := ?_) #[true, true, false, false, false, false, false, false, false] rfl rfl (by kernel_rfl) (fun _ _ _ h => h) (Or.inl ⟨by rfl, ?_⟩) (by assumption) ?_ ?_
                        rotate_left
                        · (intro w' hSw; (try dsimp only at hSw); go_split_ands; go_simp; with_reducible rfl)
                        rotate_left
                        · (simp only [Act.put, List.setIfInBounds_toArray, List.set_cons_zero, List.set_cons_succ, i64_w, i32_w]; rfl)
                        refine pure_ (i := 2) (N := some 141) (v := ?_) (a' := ?_) #[true, true, true, false, false, false, false, false, false] rfl rfl (by kernel_rfl) (fun _ _ _ h => h) (Or.inl ⟨by rfl, ?_⟩) ?_ ?_
                        rotate_left
                        · (intro w'; go_simp; with_reducible rfl)
                        rotate_left
                        · (simp only [Act.put, List.setIfInBounds_toArray, List.set_cons_zero, List.set_cons_succ, i64_w, i32_w]; rfl)
                        refine pure_ (i := 3) (N := some 142) (v := ?_) (a' := ?_) #[true, true, true, true, false, false, false, false, false] rfl rfl (by kernel_rfl) (fun _ _ _ h => h) (Or.inl ⟨by rfl, ?_⟩) ?_ ?_
                        rotate_left
                        · (intro w'; go_simp; with_reducible rfl)
                        rotate_left
                        · (simp only [Act.put, List.setIfInBounds_toArray, List.set_cons_zero, List.set_cons_succ, i64_w, i32_w]; rfl)
                        have HCALL : Aside0 (Calls Try.prog 36 #[.pointer (some ⟨g7, 0, none⟩), .int .i64 k] U1 fun e w' => e = .returned (.agg #[.int .i64 p.f0, .int .i64 p.f1, .int .i64 p.f2]) ∧ Below U1.heap.size U1 w') := ⟨by
                          have h := edge_pt_calls U1 g7 D (k : Int) (HFR.out.below HSU.out.b) (by omega) (by rw [HDV.out.2.1]; omega) (by rw [HDV.out.2.2.1, sharpM_len HOM.out]; omega) HEK.out.lo (by have := HEK.out.lt; have := HEK.out.hi; omega) (by have := HEK.out.lo; have := HEK.out.lt; omega) HEK.out.hi HSF4.out
                          rw [HP.out] at h
                          exact h⟩
                        refine one_ (i := 4) (N := some 143) #[true, true, true, true, true, false, false, false, false] rfl rfl (by kernel_rfl) (by decide) (fun K hK => ?_)
                        refine goes_ Try.func36 (by kernel_rfl) rfl #[.pointer (some ⟨g7, 0, none⟩), .int .i64 k] (by rfl) rfl rfl (by (try simp only [List.map_toArray, List.map_cons, List.map_nil]); rfl) ?_
                        refine HCALL.out.mono ?_
                        rintro e U2 ⟨rfl, hb2⟩
                        refine ⟨_, rfl, ?_⟩
                        have HS2 := Aside0.mk (HSU.out.step hb2)
                        have HC2 := Aside0.mk (pw_cell_below hb2 HC8.out)
                        clear hHeld hb2 HCALL HC8 HSU
                        refine hK.out _ _ HC2.out (fun hHeld => ?_)
                        clear hK K
                        refine norm_ (a' := ?_) ?_ ?_
                        rotate_left
                        · (simp only [Act.put, List.setIfInBounds_toArray, List.set_cons_zero, List.set_cons_succ, i64_w, i32_w]; rfl)
                        clear hHeld
                        refine one_ (i := 5) (N := some 144) #[true, true, true, true, true, true, false, false, false] rfl rfl (by kernel_rfl) (by decide) (fun K hK => ?_)
                        refine value_ (v := .slice (some ⟨U2.heap.size, 0, none⟩) 1 1) (w1 := U2.alloc (.cells #[.int .i64 p.f0, .int .i64 p.f1, .int .i64 p.f2] 42)) (by rfl) rfl (by go_simp) ?_
                        have b11 : Below U2.heap.size U2 (U2.alloc (.cells #[.int .i64 p.f0, .int .i64 p.f1, .int .i64 p.f2] 42)) := below_alloc (Below.refl _ _) _
                        refine hK.out _ _ (pw_cell_below b11 HC2.out) (fun hHeld => ?_)
                        clear hK K
                        refine norm_ (a' := ?_) ?_ ?_
                        rotate_left
                        · (simp only [Act.put, List.setIfInBounds_toArray, List.set_cons_zero, List.set_cons_succ, i64_w, i32_w]; rfl)
                        clear hHeld b11
                        refine one_ (i := 6) (N := some 145) #[true, true, true, true, true, true, true, false, false] rfl rfl (by kernel_rfl) (by decide) (fun K hK => ?_)
                        refine Kd.R_append_step k42 (w0 := Wc) Wc.heap.size rfl (.tmp 140) (.tmp 144) 22 42 (.agg #[.int .i64 0, .int .i64 0, .int .i64 0]) 24 rfl Try.underlying22 info42 rfl (by decide) (by decide) (.slice A8 (V.length + k) c8) vs p [.int .i64 p.f0, .int .i64 p.f1, .int .i64 p.f2] (fun _ => True) (fun _ => False) rfl rfl (k42_mkM _ _ _ p) (fun _ hk => hk.elim) (fun _ _ => trivial) HS2.out.r0 HS2.out.b HS2.out.b.size (by omega) ?_
                        intro v1 u3 ho1 hb1 hg1 hat1
                        refine put_dst (some 145) rfl ?_
                        have n7 : some Wc.heap.size ≠ (Value.slice A8 (V.length + k) c8).ownBlock := Kd.R_ne HS2.out.r0 HS2.out.at_ (by decide)
                        have HOB := Aside0.mk ((hg1.block _ (lt_of_block HS2.out.at_) n7).trans HS2.out.at_)
                        have HGZ := Aside0.mk hg1
                        have HO1 := Aside0.mk ho1
                        have HVAL := Aside0.mk (Kd.R_val ho1)
                        refine hK.out _ _ ((cell_after hg1 (lt_of_block HS2.out.at_) n7).trans HC2.out) (fun hHeld => ?_)
                        clear hK K
                        refine norm_ (a' := ?_) ?_ ?_
                        rotate_left
                        · (simp only [Act.put, List.setIfInBounds_toArray, List.set_cons_zero, List.set_cons_succ, i64_w, i32_w]; rfl)
                        clear hHeld ho1 hb1 hg1 hat1 n7 HC2
                        refine pure_ (i := 7) (N := some 146) (v := ?_) (a' := ?_) #[true, true, true, true, true, true, true, true, false] rfl rfl (by kernel_rfl) (fun _ _ _ h => h) (Or.inl ⟨by rfl, ?_⟩) ?_ ?_
                        rotate_left
                        · (intro w'; go_simp; with_reducible rfl)
                        rotate_left
                        · (simp only [Act.put, List.setIfInBounds_toArray, List.set_cons_zero, List.set_cons_succ, i64_w, i32_w]; rfl)
                        refine last_ (i := 8) (N := none) #[true, true, true, true, true, true, true, true, true] rfl rfl (by kernel_rfl) (by decide) (fun K hK => ?_)
                        refine skip_ (by rfl) rfl (run_store_own (g := Wc.heap.size) (j := 0) 22 (.tmp 146) (.tmp 145) rfl v1 [v1] rfl rfl HVAL.out.1 infoS22 (by simpa using HVAL.out.2) HOB.out (by simp)) ?_
                        refine hK.out _ _ ?_
                        clear hK K
                        refine done_ (by kernel_rfl) ?_
                        obtain ⟨hgw, cur, hcur, hcl⟩ := set_own (j := 0) [v1] HOB.out (by simp)
                        have HST4 := Aside0.mk (HS2.out.put0 HO1.out HGZ.out hgw ⟨cur, hcur, by rw [hcl]; rfl⟩)
                        obtain ⟨U4, hU4⟩ : ∃ U, u3.setCells Wc.heap.size 0 [v1] = U := ⟨_, rfl⟩
                        rw [hU4] at HST4 ⊢
                        clear hU4 hgw hcur hcl HOB HGZ HO1 HS2 HVAL
                        obtain ⟨xs, hxs⟩ : ∃ l, (List.range k).flatMap (fun i : Nat => creasesOf D.V.length (rd_T47 D.ES i) (rd D.SH i) i) = l := ⟨_, rfl⟩
                        have hxl : xs.length ≤ k * 2 := by
                          rw [← hxs]
                          exact sum_le _ _ _ (fun i _ => creases_len _ _ _ _)
                        rw [hxs] at HST4
                        have HXS := Aside0.mk hxs
                        have HD8 : Aside0 (U4.drew.cell? ⟨Wc.heap.size, 2, none⟩ = some v2) := ⟨(blk_cell (blk_drew HST4.out.at_) 2).trans rfl⟩
                        have HSU := Aside0.mk (HST4.out.step (below_drew (Below.refl _ _)))
                        clear hxs HST4
                        go_wp2_with fail
                        refine start_ (n := 8) (S := (fun w' => w'.cell? ⟨Wc.heap.size, 2, none⟩ = some v2)) (ds := [7]) #[false, false, false, false, false, false, false, false] (by kernel_rfl) rfl rfl HD8.out (fun hHeld => ?_)
                        generalize U4.drew = U5 at hHeld HD8 HSU ⊢
                        refine pure_ (i := 0) (N := some 147) (v := ?_) (a' := ?_) #[true, false, false, false, false, false, false, false] rfl rfl (by kernel_rfl) (fun _ _ _ h => h) (Or.inl ⟨by rfl, ?_⟩) ?_ ?_
                        rotate_left
                        · (intro w'; go_simp; with_reducible rfl)
                        rotate_left
                        · (simp only [Act.put, List.setIfInBounds_toArray, List.set_cons_zero, List.set_cons_succ, i64_w, i32_w]; rfl)
                        refine take_ (i := 1) (N := some 148) (v := ?_) (a' := ?_) #[true, true, false, false, false, false, false, false] rfl rfl (by kernel_rfl) (fun _ _ _ h => h) (Or.inl ⟨by rfl, ?_⟩) (by assumption) ?_ ?_
                        rotate_left
                        · (intro w' hSw; (try dsimp only at hSw); go_split_ands; go_simp; with_reducible rfl)
                        rotate_left
                        · (simp only [Act.put, List.setIfInBounds_toArray, List.set_cons_zero, List.set_cons_succ, i64_w, i32_w]; rfl)
                        refine pure_ (i := 2) (N := some 149) (v := ?_) (a' := ?_) #[true, true, true, false, false, false, false, false] rfl rfl (by kernel_rfl) (fun _ _ _ h => h) (Or.inl ⟨by rfl, ?_⟩) ?_ ?_
                        rotate_left
                        · (intro w'; go_simp; with_reducible rfl)
                        rotate_left
                        · (simp only [Act.put, List.setIfInBounds_toArray, List.set_cons_zero, List.set_cons_succ, i64_w, i32_w]; rfl)
                        refine pure_ (i := 3) (N := some 150) (v := ?_) (a' := ?_) #[true, true, true, true, false, false, false, false] rfl rfl (by kernel_rfl) (fun _ _ _ h => h) (Or.inl ⟨by rfl, ?_⟩) ?_ ?_
                        rotate_left
                        · (intro w'; go_simp; with_reducible rfl)
                        rotate_left
                        · (simp only [Act.put, List.setIfInBounds_toArray, List.set_cons_zero, List.set_cons_succ, i64_w, i32_w]; rfl)
                        have HCALL := Aside0.mk (creases_calls U5 g7 D (k : Int) (HFR.out.below HSU.out.b) (by omega) (by rw [HDV.out.2.1]; omega) (by rw [HDV.out.2.2.1, sharpM_len HOM.out]; omega) (by rw [HDV.out.1]; omega) (by rw [HDV.out.2.1]; omega))
                        refine one_ (i := 4) (N := some 151) #[true, true, true, true, true, false, false, false] rfl rfl (by kernel_rfl) (by decide) (fun K hK => ?_)
                        refine goes_ Try.func37 (by kernel_rfl) rfl #[.pointer (some ⟨g7, 0, none⟩), .int .i64 k] (by rfl) rfl rfl (by (try simp only [List.map_toArray, List.map_cons, List.map_nil]); rfl) ?_
                        refine HCALL.out.mono ?_
                        rintro e U6 ⟨vx, rfl, hr6, hb6⟩
                        refine ⟨_, rfl, ?_⟩
                        obtain ⟨ys, hys⟩ : ∃ l, creasesOf D.V.length (rd_T47 D.ES (k : Int)) (rd D.SH (k : Int)) (k : Int) = l := ⟨_, rfl⟩
                        have hyl : ys.length ≤ 2 := by rw [← hys]; exact creases_len _ _ _ _
                        rw [hys] at hr6
                        have HYS := Aside0.mk hys
                        obtain ⟨Ax, cx, rfl, hle, hrd⟩ := OwnRow.reads hr6.2
                        have HRD := Aside0.mk hrd
                        have HS6 := Aside0.mk (HSU.out.step hb6)
                        have HD6 := Aside0.mk (pw_cell_below hb6 HD8.out)
                        clear hys hr6 hrd hle hb6 hHeld HCALL HD8 HSU
                        refine hK.out _ _ HD6.out (fun hHeld => ?_)
                        clear hK K
                        refine norm_ (a' := ?_) ?_ ?_
                        rotate_left
                        · (simp only [Act.put, List.setIfInBounds_toArray, List.set_cons_zero, List.set_cons_succ, i64_w, i32_w]; rfl)
                        clear hHeld
                        refine one_ (i := 5) (N := some 152) #[true, true, true, true, true, true, false, false] rfl rfl (by kernel_rfl) (by decide) (fun K hK => ?_)
                        refine Kd.R_append_rows_step k53 (w0 := Wc) Wc.heap.size rfl (.tmp 148) (.tmp 151) 24 53 (.agg #[.int .i64 0, .int .i64 0, .int .i64 0]) 24 rfl Try.underlying24 info53 rfl (by decide) (by decide) v2 xs ys Ax ys.length cx (fun _ => True) (fun _ => False) rfl rfl HS6.out.r2 HRD.out (fun _ _ h => h) (fun _ hk => hk.elim) (fun _ _ => trivial) HS6.out.b HS6.out.b.size (by omega) ?_
                        intro v5 u7 ho1 hb1 hg1 hat1
                        refine put_dst (some 152) rfl ?_
                        have n7 : some Wc.heap.size ≠ v2.ownBlock := Kd.R_ne HS6.out.r2 HS6.out.at_ (by decide)
                        have HOB := Aside0.mk ((hg1.block _ (lt_of_block HS6.out.at_) n7).trans HS6.out.at_)
                        have HGZ := Aside0.mk hg1
                        have HO1 := Aside0.mk ho1
                        have HVAL := Aside0.mk (Kd.R_val ho1)
                        refine hK.out _ _ ((cell_after hg1 (lt_of_block HS6.out.at_) n7).trans HD6.out) (fun hHeld => ?_)
                        clear hK K
                        refine norm_ (a' := ?_) ?_ ?_
                        rotate_left
                        · (simp only [Act.put, List.setIfInBounds_toArray, List.set_cons_zero, List.set_cons_succ, i64_w, i32_w]; rfl)
                        clear hHeld ho1 hb1 hg1 hat1 n7 HD6 HRD hyl hxl
                        refine pure_ (i := 6) (N := some 153) (v := ?_) (a' := ?_) #[true, true, true, true, true, true, true, false] rfl rfl (by kernel_rfl) (fun _ _ _ h => h) (Or.inl ⟨by rfl, ?_⟩) ?_ ?_
                        rotate_left
                        · (intro w'; go_simp; with_reducible rfl)
                        rotate_left
                        · (simp only [Act.put, List.setIfInBounds_toArray, List.set_cons_zero, List.set_cons_succ, i64_w, i32_w]; rfl)
                        refine last_ (i := 7) (N := none) #[true, true, true, true, true, true, true, true] rfl rfl (by kernel_rfl) (by decide) (fun K hK => ?_)
                        refine skip_ (by rfl) rfl (run_store_own (g := Wc.heap.size) (j := 2) 24 (.tmp 153) (.tmp 152) rfl v5 [v5] rfl rfl HVAL.out.1 infoS24 (by simpa using HVAL.out.2) HOB.out (by simp)) ?_
                        refine hK.out _ _ ?_
                        clear hK K
                        refine done_ (by kernel_rfl) ?_
                        obtain ⟨hgw, cur, hcur, hcl⟩ := set_own (j := 2) [v5] HOB.out (by simp)
                        have HST8 := Aside0.mk (HS6.out.put2 HO1.out HGZ.out hgw ⟨cur, hcur, by rw [hcl]; rfl⟩)
                        obtain ⟨U8, hU8⟩ : ∃ U, u7.setCells Wc.heap.size 2 [v5] = U := ⟨_, rfl⟩
                        rw [hU8] at HST8 ⊢
                        clear hU8 hgw hcur hcl HOB HGZ HO1 HS6 HVAL HEK HSF4
                        go_wp2_with fail
                        go_roundw
                        case rel =>
                          refine ⟨k + 1, v1, v5, by omega, by go_num, ⟨?_⟩⟩
                          rw [List.range_succ, List.map_append, ← List.append_assoc, HVS.out, List.map_cons, List.map_nil, HP.out, List.flatMap_append, HXS.out]
                          have := HST8.out
                          rw [← HYS.out] at this
                          simpa using this
                        case measure => simp [intOf]; omega
                      · obtain rfl : k = ES.length := by omega
                        clear hlt hk
                        go_wp2_with fail
                        obtain ⟨vs, hvs⟩ : ∃ l, (List.range V.length).map (fun v : Nat => vertexPt D v) ++ (List.range ES.length).map (fun i : Nat => edgePt D.V D.FV (rd_T47 D.ES i) (rd D.SH i)) = l := ⟨_, rfl⟩
                        have hvl : vs.length = V.length + ES.length := by rw [← hvs]; simp
                        obtain ⟨xs, hxs⟩ : ∃ l, (List.range ES.length).flatMap (fun i : Nat => creasesOf D.V.length (rd_T47 D.ES i) (rd D.SH i) i) = l := ⟨_, rfl⟩
                        rw [hvs, hxs] at HT
                        have HVS := Aside0.mk hvs
                        have HXS := Aside0.mk hxs
                        have HVL := Aside0.mk hvl
                        have hfl : D.FV.length = F.length := HBT.out.fv
                        have HFL := Aside0.mk hfl
                        have HC8 : Aside0 (wr.drew.cell? ⟨Wc.heap.size, 0, none⟩ = some v0) := ⟨(blk_cell (blk_drew HT.out.at_) 0).trans rfl⟩
                        have HSU := Aside0.mk (HT.out.step (below_drew (Below.refl _ _)))
                        have HFU := Aside0.mk (HFR.out.below HSU.out.b)
                        have HC9 : Aside0 (wr.drew.cell? ⟨g7, 8, none⟩ = some (.slice D.A8 D.FV.length D.c8)) := ⟨(HFU.out.cell 8).trans rfl⟩
                        clear hvs hxs HT hvl hfl
                        refine start_ (n := 9) (S := (fun w' => w'.cell? ⟨Wc.heap.size, 0, none⟩ = some v0 ∧ w'.cell? ⟨g7, 8, none⟩ = some (.slice D.A8 D.FV.length D.c8))) (ds := [8]) #[false, false, false, false, false, false, false, false, false] (by kernel_rfl) rfl rfl ⟨HC8.out, HC9.out⟩ (fun hHeld => ?_)
                        generalize wr.drew = U1 at hHeld HC8 HC9 HSU HFU ⊢
                        refine pure_ (i := 0) (N := some 155) (v := ?_) (a' := ?_) #[true, false, false, false, false, false, false, false, false] rfl rfl (by kernel_rfl) (fun _ _ _ h => h) (Or.inl ⟨by rfl, ?_⟩) ?_ ?_
                        rotate_left
                        · (intro w'; go_simp; with_reducible rfl)
                        rotate_left
                        · (simp only [Act.put, List.setIfInBounds_toArray, List.set_cons_zero, List.set_cons_succ, i64_w, i32_w]; rfl)
                        refine take_ (i := 1) (N := some 156) (v := ?_) (a' := ?_) #[true, true, false, false, false, false, false, false, false] rfl rfl (by kernel_rfl) (fun _ _ _ h => h) (Or.inl ⟨by rfl, ?_⟩) (by assumption) ?_ ?_
                        rotate_left
                        · (intro w' hSw; (try dsimp only at hSw); go_split_ands; go_simp; with_reducible rfl)
                        rotate_left
                        · (simp only [Act.put, List.setIfInBounds_toArray, List.set_cons_zero, List.set_cons_succ, i64_w, i32_w]; rfl)
                        refine pure_ (i := 2) (N := some 157) (v := ?_) (a' := ?_) #[true, true, true, false, false, false, false, false, false] rfl rfl (by kernel_rfl) (fun _ _ _ h => h) (Or.inl ⟨by rfl, ?_⟩) ?_ ?_
                        rotate_left
                        · (intro w'; go_simp; with_reducible rfl)
                        rotate_left
                        · (simp only [Act.put, List.setIfInBounds_toArray, List.set_cons_zero, List.set_cons_succ, i64_w, i32_w]; rfl)
                        refine pure_ (i := 3) (N := some 158) (v := ?_) (a' := ?_) #[true, true, true, true, false, false, false, false, false] rfl rfl (by kernel_rfl) (fun _ _ _ h => h) (Or.inl ⟨by rfl, ?_⟩) ?_ ?_
                        rotate_left
                        · (intro w'; go_simp; with_reducible rfl)
                        rotate_left
                        · (simp only [Act.put, List.setIfInBounds_toArray, List.set_cons_zero, List.set_cons_succ, i64_w, i32_w]; rfl)
                        refine pure_ (i := 4) (N := some 159) (v := ?_) (a' := ?_) #[true, true, true, true, true, false, false, false, false] rfl rfl (by kernel_rfl) (fun _ _ _ h => h) (Or.inl ⟨by rfl, ?_⟩) ?_ ?_
                        rotate_left
                        · (intro w'; go_simp; with_reducible rfl)
                        rotate_left
                        · (simp only [Act.put, List.setIfInBounds_toArray, List.set_cons_zero, List.set_cons_succ, i64_w, i32_w]; rfl)
                        refine take_ (i := 5) (N := some 160) (v := ?_) (a' := ?_) #[true, true, true, true, true, true, false, false, false] rfl rfl (by kernel_rfl) (fun _ _ _ h => h) (Or.inl ⟨by rfl, ?_⟩) (by assumption) ?_ ?_
                        rotate_left
                        · (intro w' hSw; (try dsimp only at hSw); go_split_ands; go_simp; with_reducible rfl)
                        rotate_left
                        · (simp only [Act.put, List.setIfInBounds_toArray, List.set_cons_zero, List.set_cons_succ, i64_w, i32_w]; rfl)
                        have hvl := HVL.out
                        have hfl := HFL.out
                        refine one_ (i := 6) (N := some 161) #[true, true, true, true, true, true, true, false, false] rfl rfl (by kernel_rfl) (by decide) (fun K hK => ?_)
                        refine Kd.R_append_rows_step k42 (w0 := Wc) Wc.heap.size rfl (.tmp 156) (.tmp 160) 22 42 (.agg #[.int .i64 0, .int .i64 0, .int .i64 0]) 24 rfl Try.underlying22 info42 rfl (by decide) (by decide) v0 vs D.FV D.A8 D.FV.length D.c8 (fun _ => True) (fun _ => False) rfl rfl HSU.out.r0 HFU.out.fv (fun _ _ h => h) (fun _ hk => hk.elim) (fun _ _ => trivial) HSU.out.b HSU.out.b.size (by omega) ?_
                        intro v1 u3 ho1 hb1 hg1 hat1
                        refine put_dst (some 161) rfl ?_
                        have n7 : some Wc.heap.size ≠ v0.ownBlock := Kd.R_ne HSU.out.r0 HSU.out.at_ (by decide)
                        have n8 : some g7 ≠ v0.ownBlock := Kd.R_ne HSU.out.r0 HFU.out.at_ (by decide)
                        have HOB := Aside0.mk ((hg1.block _ (lt_of_block HSU.out.at_) n7).trans HSU.out.at_)
                        have HGZ := Aside0.mk hg1
                        have HO1 := Aside0.mk ho1
                        have HVAL := Aside0.mk (Kd.R_val ho1)
                        refine hK.out _ _ ⟨(cell_after hg1 (lt_of_block HSU.out.at_) n7).trans HC8.out, (cell_after hg1 (lt_of_block HFU.out.at_) n8).trans HC9.out⟩ (fun hHeld => ?_)
                        clear hK K
                        refine norm_ (a' := ?_) ?_ ?_
                        rotate_left
                        · (simp only [Act.put, List.setIfInBounds_toArray, List.set_cons_zero, List.set_cons_succ, i64_w, i32_w]; rfl)
                        clear hHeld ho1 hb1 hg1 hat1 n7 n8 HC8 HC9 hvl hfl
                        refine pure_ (i := 7) (N := some 162) (v := ?_) (a' := ?_) #[true, true, true, true, true, true, true, true, false] rfl rfl (by kernel_rfl) (fun _ _ _ h => h) (Or.inl ⟨by rfl, ?_⟩) ?_ ?_
                        rotate_left
                        · (intro w'; go_simp; with_reducible rfl)
                        rotate_left
                        · (simp only [Act.put, List.setIfInBounds_toArray, List.set_cons_zero, List.set_cons_succ, i64_w, i32_w]; rfl)
                        refine last_ (i := 8) (N := none) #[true, true, true, true, true, true, true, true, true] rfl rfl (by kernel_rfl) (by decide) (fun K hK => ?_)
                        refine skip_ (by rfl) rfl (run_store_own (g := Wc.heap.size) (j := 0) 22 (.tmp 162) (.tmp 161) rfl v1 [v1] rfl rfl HVAL.out.1 infoS22 (by simpa using HVAL.out.2) HOB.out (by simp)) ?_
                        refine hK.out _ _ ?_
                        clear hK K
                        refine done_ (by kernel_rfl) ?_
                        obtain ⟨hgw, cur, hcur, hcl⟩ := set_own (j := 0) [v1] HOB.out (by simp)
                        have HST4 := Aside0.mk (HSU.out.put0 HO1.out HGZ.out hgw ⟨cur, hcur, by rw [hcl]; rfl⟩)
                        obtain ⟨U4, hU4⟩ : ∃ U, u3.setCells Wc.heap.size 0 [v1] = U := ⟨_, rfl⟩
                        rw [hU4] at HST4 ⊢
                        have HLV : Aside0 (vs ++ D.FV = levelV D) := ⟨by
                          rw [← HVS.out]
                          unfold levelV
                          rw [HDV.out.1, HDV.out.2.1]⟩
                        have HLX : Aside0 (xs = levelX D) := ⟨by
                          rw [← HXS.out]
                          unfold levelX
                          rw [HDV.out.1, HDV.out.2.1]⟩
                        rw [HLV.out, HLX.out] at HST4
                        have HST6 : Aside0 (St3 Wc U4 v1 (.slice none 0 0) v2 (levelV D) ((List.range 0).flatMap (fun k : Nat => partsOf D.V.length D.ES.length k D.ES (fcAt D.F k))) (levelX D)) := ⟨by simpa using HST4.out⟩
                        have hkc : U4.cell? ⟨w.heap.size, 1, none⟩ = some (.slice A1 F.length c1) := (blk_cell (HLW.out.step HST4.out.b).cage 1).trans rfl
                        clear hU4 hgw hcur hcl HOB HGZ HO1 HSU HFU HVAL HVS HXS HVL HFL HLV HLX HST4
                        go_wp2_with fail
                        clear hkc
                        go_loopw [166] (fun v166 wr => ∃ (k : Nat) (v3 : Value), k ≤ F.length ∧ v166 = .int .i64 k ∧ Aside0 (St3 Wc wr v1 v3 v2 (levelV D) ((List.range k).flatMap (fun k : Nat => partsOf D.V.length D.ES.length k D.ES (fcAt D.F k))) (levelX D)))
                          (fun v166 _ => F.length - (intOf v166).toNat)
                        case atStart => exact ⟨0, _, Nat.zero_le _, rfl, HST6⟩
                        case round =>
                          clear HST6
                          obtain ⟨k, v3, hk, rfl, HT⟩ := hrel
                          by_cases hlt : k < F.length
                          · have HLr := Aside0.mk (HLW.out.step HT.out.b)
                            obtain ⟨ad, A0f, c0f, e', hcell', hl0, hC⟩ := at_face (Kd.C_below HF.out HLr.out.b) (k : Int) (by omega) (by omega)
                            cases e'
                            rw [Int.toNat_natCast] at hcell'
                            have hsf : (fcAt F (k : Int)).length ≤ 1048576 := small_face HS.out _
                            have hFC : Aside0 (fcAt D.F (k : Int) = fcAt F (k : Int)) := ⟨by rw [HDV.out.2.2.2.1]⟩
                            generalize hfc : fcAt F (k : Int) = fc at hcell' hl0 hC hsf hFC
                            have HCF := Aside0.mk hC
                            clear hC hfc
                            obtain ⟨fs, hfs⟩ : ∃ l, (List.range k).flatMap (fun k : Nat => partsOf D.V.length D.ES.length k D.ES (fcAt D.F k)) = l := ⟨_, rfl⟩
                            have hfl : fs.length ≤ k * 1048576 := by
                              rw [← hfs]
                              refine sum_le _ _ _ (fun i _ => ?_)
                              rw [show (partsOf D.V.length D.ES.length i D.ES (fcAt D.F i)).length = (fcAt D.F i).length by simp [partsOf], HDV.out.2.2.2.1]
                              exact small_face HS.out _
                            rw [hfs] at HT
                            have HFS := Aside0.mk hfs
                            have HFL := Aside0.mk hfl
                            have HC8 : Aside0 (wr.drew.cell? ⟨Wc.heap.size, 1, none⟩ = some v3) := ⟨(blk_cell (blk_drew HT.out.at_) 1).trans rfl⟩
                            have HSU := Aside0.mk (HT.out.step (below_drew (Below.refl _ _)))
                            have HCU := Aside0.mk (Kd.C_below HCF.out (below_drew (Below.refl _ wr)))
                            clear hfs HT hfl HLr HCF
                            go_wp2_with fail
                            refine start_ (n := 9) (S := (fun w' => w'.cell? ⟨Wc.heap.size, 1, none⟩ = some v3)) (ds := [8]) #[false, false, false, false, false, false, false, false, false] (by kernel_rfl) rfl rfl HC8.out (fun hHeld => ?_)
                            generalize wr.drew = U5 at hHeld HC8 HSU HCU ⊢
                            refine pure_ (i := 0) (N := some 171) (v := ?_) (a' := ?_) #[true, false, false, false, false, false, false, false, false] rfl rfl (by kernel_rfl) (fun _ _ _ h => h) (Or.inl ⟨by rfl, ?_⟩) ?_ ?_
                            rotate_left
                            · (intro w'; go_simp; with_reducible rfl)
                            rotate_left
                            · (simp only [Act.put, List.setIfInBounds_toArray, List.set_cons_zero, List.set_cons_succ, i64_w, i32_w]; rfl)
                            refine take_ (i := 1) (N := some 172) (v := ?_) (a' := ?_) #[true, true, false, false, false, false, false, false, false] rfl rfl (by kernel_rfl) (fun _ _ _ h => h) (Or.inl ⟨by rfl, ?_⟩) (by assumption) ?_ ?_
                            rotate_left
                            · (intro w' hSw; (try dsimp only at hSw); go_split_ands; go_simp; with_reducible rfl)
                            rotate_left
                            · (simp only [Act.put, List.setIfInBounds_toArray, List.set_cons_zero, List.set_cons_succ, i64_w, i32_w]; rfl)
                            refine pure_ (i := 2) (N := some 173) (v := ?_) (a' := ?_) #[true, true, true, false, false, false, false, false, false] rfl rfl (by kernel_rfl) (fun _ _ _ h => h) (Or.inl ⟨by rfl, ?_⟩) ?_ ?_
                            rotate_left
                            · (intro w'; go_simp; with_reducible rfl)
                            rotate_left
                            · (simp only [Act.put, List.setIfInBounds_toArray, List.set_cons_zero, List.set_cons_succ, i64_w, i32_w]; rfl)
                            refine pure_ (i := 3) (N := some 174) (v := ?_) (a' := ?_) #[true, true, true, true, false, false, false, false, false] rfl rfl (by kernel_rfl) (fun _ _ _ h => h) (Or.inl ⟨by rfl, ?_⟩) ?_ ?_
                            rotate_left
                            · (intro w'; go_simp; with_reducible rfl)
                            rotate_left
                            · (simp only [Act.put, List.setIfInBounds_toArray, List.set_cons_zero, List.set_cons_succ, i64_w, i32_w]; rfl)
                            refine pure_ (i := 4) (N := some 175) (v := ?_) (a' := ?_) #[true, true, true, true, true, false, false, false, false] rfl rfl (by kernel_rfl) (fun _ _ _ h => h) (Or.inl ⟨by rfl, ?_⟩) ?_ ?_
                            rotate_left
                            · (intro w'; go_simp; with_reducible rfl)
                            rotate_left
                            · (simp only [Act.put, List.setIfInBounds_toArray, List.set_cons_zero, List.set_cons_succ, i64_w, i32_w]; rfl)
                            have HCALL := Aside0.mk (parts_calls U5 g7 D A0f c0f (k : Int) fc (HFR.out.below HSU.out.b) HCU.out (by rw [HBT.out.es]; exact sorted_edgesOf _) (by rw [HDV.out.1]; omega) (by rw [HDV.out.2.1]; omega) (by omega) (by omega) (by omega))
                            refine one_ (i := 5) (N := some 176) #[true, true, true, true, true, true, false, false, false] rfl rfl (by kernel_rfl) (by decide) (fun K hK => ?_)
                            refine goes_ Try.func38 (by kernel_rfl) rfl #[.pointer (some ⟨g7, 0, none⟩), .int .i64 k, .slice A0f fc.length c0f] (by rfl) rfl rfl (by (try simp only [List.map_toArray, List.map_cons, List.map_nil]); rfl) ?_
                            refine HCALL.out.mono ?_
                            rintro e U6 ⟨vx, rfl, hr6, hb6⟩
                            refine ⟨_, rfl, ?_⟩
                            obtain ⟨ys, hys⟩ : ∃ l, partsOf D.V.length D.ES.length (k : Int) D.ES fc = l := ⟨_, rfl⟩
                            have hyl : ys.length ≤ 1048576 := by rw [← hys]; simp [partsOf]; omega
                            rw [hys] at hr6
                            have HYS := Aside0.mk hys
                            obtain ⟨Ax, cx, rfl, hle, hrd⟩ := OwnRow.reads (Kd.R_bound hr6).2
                            have HRD := Aside0.mk hrd
                            have HLT := Aside0.mk (Kd.R_lt HSU.out.r1)
                            have HBS := Aside0.mk HSU.out.b.size
                            have HS6 := Aside0.mk (HSU.out.step hb6)
                            have HD6 := Aside0.mk (pw_cell_below hb6 HC8.out)
                            clear hys hr6 hrd hle hb6 hHeld HCALL HC8 HSU HCU
                            refine hK.out _ _ HD6.out (fun hHeld => ?_)
                            clear hK K
                            refine norm_ (a' := ?_) ?_ ?_
                            rotate_left
                            · (simp only [Act.put, List.setIfInBounds_toArray, List.set_cons_zero, List.set_cons_succ, i64_w, i32_w]; rfl)
                            clear hHeld
                            have hfl := HFL.out
                            refine one_ (i := 6) (N := some 177) #[true, true, true, true, true, true, true, false, false] rfl rfl (by kernel_rfl) (by decide) (fun K hK => ?_)
                            refine Kd.R_append_rows_step kRow (w0 := Wc) Wc.heap.size rfl (.tmp 172) (.tmp 176) 23 29 (.slice none 0 0) 24 rfl Try.underlying23 infoB29 rfl (by decide) (by decide) v3 fs ys Ax ys.length cx (fun _ => True) (fun k => U5.heap.size ≤ k) rfl rfl HS6.out.r1 HRD.out (fun _ _ h => kRow.M_lower HBS.out (kRow.M_mono (fun k hk => hk.1.2.1) h)) (fun k hk => ⟨trivial, fun e => by have := HLT.out k e.symm; omega⟩) (fun _ _ => trivial) HS6.out.b HS6.out.b.size (by omega) ?_
                            intro v5 u7 ho1 hb1 hg1 hat1
                            refine put_dst (some 177) rfl ?_
                            have n7 : some Wc.heap.size ≠ v3.ownBlock := Kd.R_ne HS6.out.r1 HS6.out.at_ (by decide)
                            have HOB := Aside0.mk ((hg1.block _ (lt_of_block HS6.out.at_) n7).trans HS6.out.at_)
                            have HGZ := Aside0.mk hg1
                            have HO1 := Aside0.mk ho1
                            have HVAL := Aside0.mk (Kd.R_val ho1)
                            refine hK.out _ _ ((cell_after hg1 (lt_of_block HS6.out.at_) n7).trans HD6.out) (fun hHeld => ?_)
                            clear hK K
                            refine norm_ (a' := ?_) ?_ ?_
                            rotate_left
                            · (simp only [Act.put, List.setIfInBounds_toArray, List.set_cons_zero, List.set_cons_succ, i64_w, i32_w]; rfl)
                            clear hHeld ho1 hb1 hg1 hat1 n7 HD6 HRD hyl hfl HLT HBS
                            refine pure_ (i := 7) (N := some 178) (v := ?_) (a' := ?_) #[true, true, true, true, true, true, true, true, false] rfl rfl (by kernel_rfl) (fun _ _ _ h => h) (Or.inl ⟨by rfl, ?_⟩) ?_ ?_
                            rotate_left
                            · (intro w'; go_simp; with_reducible rfl)
                            rotate_left
                            · (simp only [Act.put, List.setIfInBounds_toArray, List.set_cons_zero, List.set_cons_succ, i64_w, i32_w]; rfl)
                            refine last_ (i := 8) (N := none) #[true, true, true, true, true, true, true, true, true] rfl rfl (by kernel_rfl) (by decide) (fun K hK => ?_)
                            refine skip_ (by rfl) rfl (run_store_own (g := Wc.heap.size) (j := 1) 23 (.tmp 178) (.tmp 177) rfl v5 [v5] rfl rfl HVAL.out.1 infoS23 (by simpa using HVAL.out.2) HOB.out (by simp)) ?_
                            refine hK.out _ _ ?_
                            clear hK K
                            refine done_ (by kernel_rfl) ?_
                            obtain ⟨hgw, cur, hcur, hcl⟩ := set_own (j := 1) [v5] HOB.out (by simp)
                            have HST8 := Aside0.mk (HS6.out.put1 HO1.out HGZ.out hgw ⟨cur, hcur, by rw [hcl]; rfl⟩)
                            obtain ⟨U8, hU8⟩ : ∃ U, u7.setCells Wc.heap.size 1 [v5] = U := ⟨_, rfl⟩
                            rw [hU8] at HST8 ⊢
                            clear hU8 hgw hcur hcl HOB HGZ HO1 HS6 HVAL HFL
                            go_wp2_with fail
                            go_roundw
                            case rel =>
                              refine ⟨k + 1, v5, by omega, by go_num, ⟨?_⟩⟩
                              rw [List.range_succ, List.flatMap_append, HFS.out]
                              have := HST8.out
                              rw [← HYS.out, ← hFC.out] at this
                              simpa using this
                            case measure => simp [intOf]; omega
                          · obtain rfl : k = F.length := by omega
                            clear hlt hk
                            have hLF : (List.range F.length).flatMap (fun k : Nat => partsOf D.V.length D.ES.length k D.ES (fcAt D.F k)) = levelF D := by
                              unfold levelF
                              rw [HDV.out.2.2.2.1]
                            rw [hLF] at HT
                            clear hLF
                            have hq0 : wr.cell? ⟨Wc.heap.size, 0, none⟩ = some v1 := (blk_cell HT.out.at_ 0).trans rfl
                            have hq1 : wr.cell? ⟨Wc.heap.size, 1, none⟩ = some v3 := (blk_cell HT.out.at_ 1).trans rfl
                            have hq2 : wr.cell? ⟨Wc.heap.size, 2, none⟩ = some v2 := (blk_cell HT.out.at_ 2).trans rfl
                            have HLr := Aside0.mk (HLW.out.step HT.out.b)
                            have hres := HLr.out.res
                            have hv1 := Kd.R_val HT.out.r0
                            have hv3 := Kd.R_val HT.out.r1
                            have hv2 := Kd.R_val HT.out.r2
                            have HV1 := Aside0.mk hv1
                            have HV3 := Aside0.mk hv3
                            have HV2 := Aside0.mk hv2
                            clear hv1 hv2 hv3
                            go_wp2_with (first | (refine gate_ (.store 26 (.tmp 2) (.tmp 180)) rfl ?_; refine store_own (g := g2) (j := 0) 26 (.tmp 2) (.tmp 180) rfl rfl rfl (.agg #[v1, v3, v2]) [v1, v3, v2] rfl rfl rfl infoS26 (by simp [HV1.out.2, HV2.out.2, HV3.out.2]) hres (by simp) ?_))
                            intro w9 hg9 cur9 hb9 hl9 hs9
                            obtain rfl : cur9 = #[v1, v3, v2] := by
                              rw [← Array.toList_inj]
                              simpa using hl9
                            have HB9 : Aside0 (Below w.heap.size w w9) := ⟨HLr.out.b.grown hg9 HLr.out.b.size (fun k hk => by cases hk; omega)⟩
                            have HM9 : Aside0 (sub_Level.f V F X = some (levelV D, levelF D, levelX D, 0)) := ⟨by
                              unfold sub_Level.f
                              rw [HS.out, decide_eq_true hv, HMOD.out]
                              simp only [Bool.and_self, if_true]
                              rw [HOM.out]
                              simp only
                              rw [if_neg (by rw [HFAR.out]; simp), HDL.out.1, HDL.out.2.1, HDL.out.2.2]⟩
                            have hz := HLW.out.b.size
                            have hlw := HLr.out.res
                            have HR0 := Aside0.mk (Kd.R_lower (R_block HT.out.r0 hlw (by decide) hg9) hz)
                            have HR1 := Aside0.mk (Kd.R_lower (R_block HT.out.r1 hlw (by decide) hg9) hz)
                            have HR2 := Aside0.mk (Kd.R_lower (R_block HT.out.r2 hlw (by decide) hg9) hz)
                            clear hg9 hl9 hs9 hz hlw hq0 hq1 hq2
                            go_wp2_with fail
                            refine bodyPost_ret (results_cell_tmp rfl _ _ g2 26 #[v1, v3, v2] (0, 0) _ rfl hb9 Try.underlying26 rfl infoS26) rfl ?_
                            exact ⟨_, _, _, levelV D, levelF D, levelX D, 0, HM9.out, rfl, HR0.out, HR1.out, HR2.out, HB9.out⟩
  · have hq : (en != 0) = true := by simp [hen]
    have hne : Aside0 (¬ en = 0) := ⟨hen⟩
    clear hen
    go_wp2_with (first | (refine gate_ (.store 26 (.tmp 2) (.tmp 28)) rfl ?_; refine store_own (g := g2) (j := 0) 26 (.tmp 2) (.tmp 28) rfl rfl rfl (.agg #[.slice none 0 0, .slice none 0 0, .slice none 0 0]) [.slice none 0 0, .slice none 0 0, .slice none 0 0] rfl rfl rfl infoS26 (by decide) K2.out (by simp) ?_))
    intro w9 hg9 cur9 hb9 hl9 hs9
    obtain rfl : cur9 = #[.slice none 0 0, .slice none 0 0, .slice none 0 0] := by
      rw [← Array.toList_inj]
      simpa using hl9
    have HB9 : Aside0 (Below w.heap.size w w9) := ⟨HE3.out.grown hg9 HE3.out.size (fun k hk => by cases hk; omega)⟩
    have HM9 : Aside0 (sub_Level.f V F X = some ([], [], [], en)) := ⟨by
      unfold sub_Level.f
      rw [HS.out, decide_eq_true hv, HMOD.out]
      simp only [Bool.and_self, if_true]
      rw [if_neg hne.out]⟩
    clear hg9 hl9 hs9
    go_wp2_with fail
    refine bodyPost_ret (results_cell_tmp rfl _ _ g2 26 #[.slice none 0 0, .slice none 0 0, .slice none 0 0] (0, 0) _ rfl hb9 Try.underlying26 rfl infoS26) rfl ?_
    exact ⟨_, _, _, [], [], [], en, HM9.out, rfl, Kd.R_nil _ _ _ _ _, Kd.R_nil _ _ _ _ _, Kd.R_nil _ _ _ _ _, HB9.out⟩
end Go.Proofs.Ytnjdjfengoaleaa.MSub
namespace Go.Proofs.Ytnjdjfengoaleaa.MSub
open Go.RowKit Go.Proofs.YtnjdjfengoaleaaW.PrintWords Go.Proofs.YtnjdjfengoaleaaW.PrintLast Go.Proofs.YtnjdjfengoaleaaW.PrintMore
set_option linter.unusedVariables false
theorem sub_Level.calls (A0_0 : Option Addr) (c0_0 : Nat) (l0_0 : List S42) (A0_1 : Option Addr) (c0_1 : Nat) (l0_1 : List (List Int)) (A0_2 : Option Addr) (c0_2 : Nat) (l0_2 : List S53) (r1 : List S42) (r2 : List (List Int)) (r3 : List S53) (r4 : Int) (w : World)
    (hr0_0 : Kd.C k42 w A0_0 l0_0.length l0_0) (hc0_0 : l0_0.length ≤ c0_0) (hr0_1 : Kd.C (Kd.slice 3 (Kd.int .i64)) w A0_1 l0_1.length l0_1) (hc0_1 : l0_1.length ≤ c0_1) (hr0_2 : Kd.C k53 w A0_2 l0_2.length l0_2) (hc0_2 : l0_2.length ≤ c0_2) (h : sub_Level.f l0_0 l0_1 l0_2 = some (r1, r2, r3, r4)) :
    Calls Try.prog 14 #[.agg #[.slice A0_0 l0_0.length c0_0, .slice A0_1 l0_1.length c0_1, .slice A0_2 l0_2.length c0_2]] w fun e w' => ∃ v0_ v1_ v2_ : Value, e = .returned (.tuple #[.agg #[v0_, v1_, v2_], .int .i64 r4]) ∧ Kd.R k42 42 w' w.heap.size (fun _ => True) v0_ r1 ∧ Kd.R (Kd.slice 3 (Kd.int .i64)) 29 w' w.heap.size (fun _ => True) v1_ r2 ∧ Kd.R k53 53 w' w.heap.size (fun _ => True) v2_ r3 ∧ Below w.heap.size w w' := by
  have hg : small l0_1 = true ∧ l0_0.length ≤ 1048576 := by
    by_cases hg : (small l0_1 && decide (l0_0.length ≤ 1048576)) = true
    · rw [Bool.and_eq_true, decide_eq_true_iff] at hg
      exact hg
    · unfold sub_Level.f at h
      rw [if_neg hg] at h
      cases h
  refine (level_calls0 w A0_0 A0_1 A0_2 c0_0 c0_1 c0_2 l0_0 l0_1 l0_2 hr0_0 hr0_1 hr0_2 hg.1 hg.2).mono ?_
  rintro e w' ⟨v0, v1, v2, q1, q2, q3, q4, hq, rfl, h0, h1, h2, hb⟩
  rw [hq] at h
  simp only [Option.some.injEq, Prod.mk.injEq] at h
  obtain ⟨rfl, rfl, rfl, rfl⟩ := h
  exact ⟨v0, v1, v2, rfl, h0, h1, h2, hb⟩
end Go.Proofs.Ytnjdjfengoaleaa.MSub
