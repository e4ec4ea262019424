/- Texts of this claim, merged by a program of this session; what the claim does not use is left out. -/
import Derived.Deep.RegionHeld3
import Derived.Test.YtnjdjfengoaleaaQg
namespace Go.Proofs.Ytnjdjfengoaleaa.MSub
open Go.RowKit Go.Proofs.YtnjdjfengoaleaaW.PrintWords Go.Proofs.YtnjdjfengoaleaaW.PrintLast Go.Proofs.YtnjdjfengoaleaaW.PrintMore
open Go.Proofs.Ytnjdjfengoaleaa.Relv
set_option linter.unusedVariables false
set_option linter.unusedSimpArgs false
def edgePt (V FV : List S42) (e : S47) (sh : Int) : S42 :=
  if sh = 0 then ofV (plus 1 (plus 1 (plus 1 (plus 1 z42 (rd_T42 V e.f0)) (rd_T42 V e.f1)) (rd_T42 FV e.f2)) (rd_T42 FV e.f3)) 4
  else ofV (plus 1 (plus 1 z42 (rd_T42 V e.f0)) (rd_T42 V e.f1)) 2
set_option maxHeartbeats 1000000 in
set_option maxRecDepth 100000 in
theorem edge_pt_calls (w : World) (fb : Nat) (D : Fin_) (i : Int) (hD : FinerR w fb D) (hi0 : 0 ≤ i) (hi1 : i < D.ES.length) (hi2 : i < D.SH.length)
    (ha0 : 0 ≤ (rd_T47 D.ES i).f0) (ha1 : (rd_T47 D.ES i).f0 < D.V.length) (hb0 : 0 ≤ (rd_T47 D.ES i).f1) (hb1 : (rd_T47 D.ES i).f1 < D.V.length)
    (hF : rd D.SH i = 0 → 0 ≤ (rd_T47 D.ES i).f2 ∧ (rd_T47 D.ES i).f2 < D.FV.length ∧ 0 ≤ (rd_T47 D.ES i).f3 ∧ (rd_T47 D.ES i).f3 < D.FV.length) :
    Calls Try.prog 36 #[.pointer (some ⟨fb, 0, none⟩), .int .i64 i] w fun e w' => e = .returned (.agg (cellsV (edgePt D.V D.FV (rd_T47 D.ES i) (rd D.SH i)))) ∧ Below w.heap.size w w' := by
  obtain ⟨ade, hA3, hy0, hy1, hy2, hy3⟩ := at_T47 hD.es i hi0 hi1
  obtain ⟨ads, hA6, hsh⟩ := Kd.at_int hD.sh i hi0 hi2
  have hf0 := (hD.cell 0).trans (rfl : _ = some (Value.slice D.A0 D.V.length D.c0))
  have hf3 := (hD.cell 3).trans (rfl : _ = some (Value.slice D.A3 D.ES.length D.c3))
  have hf6 := (hD.cell 6).trans (rfl : _ = some (Value.slice D.A6 D.SH.length D.c6))
  have hf8 := (hD.cell 8).trans (rfl : _ = some (Value.slice D.A8 D.FV.length D.c8))
  obtain ⟨res, hres⟩ : ∃ res, edgePt D.V D.FV (rd_T47 D.ES i) (rd D.SH i) = res := ⟨_, rfl⟩
  rw [hres]
  obtain ⟨sh, hshe⟩ : ∃ sh, rd D.SH i = sh := ⟨_, rfl⟩
  rw [hshe] at hres hsh hF
  obtain ⟨ed, hed⟩ : ∃ ed, rd_T47 D.ES i = ed := ⟨_, rfl⟩
  rw [hed] at hy0 hy1 hy2 hy3 ha0 ha1 hb0 hb1 hF hres
  obtain ⟨x0, x1, x2, x3⟩ := ed
  simp only at hy0 hy1 hy2 hy3 ha0 ha1 hb0 hb1 hF
  obtain ⟨ad, hA0, hp0, hp1, hp2⟩ := at_T42 hD.v x0 ha0 ha1
  obtain ⟨ad', hA0', hq0, hq1, hq2⟩ := at_T42 hD.v x1 hb0 hb1
  obtain rfl : ad = ad' := by rw [hA0] at hA0'; exact Option.some.inj hA0'
  rw [hA0] at hf0
  rw [hA3] at hf3
  rw [hA6] at hf6
  have HD := Aside0.mk hD
  have HFF := Aside0.mk hF
  have HRES := Aside0.mk hres
  clear hA0 hA0' hA3 hA6 hres hshe hed hF hD
  obtain ⟨mi, hmi⟩ : ∃ mi : Nat, (mi : Int) = i := ⟨i.toNat, by omega⟩
  subst hmi
  obtain ⟨m0, hm0⟩ : ∃ m : Nat, (m : Int) = x0 := ⟨x0.toNat, by omega⟩
  subst hm0
  obtain ⟨m1, hm1⟩ : ∃ m : Nat, (m : Int) = x1 := ⟨x1.toNat, by omega⟩
  subst hm1
  rw [Int.toNat_natCast] at hy0 hy1 hy2 hy3 hp0 hp1 hp2 hq0 hq1 hq2 hsh
  obtain ⟨pp, hpp⟩ : ∃ pp, rd_T42 D.V (m0 : Int) = pp := ⟨_, rfl⟩
  obtain ⟨qq, hqq⟩ : ∃ qq, rd_T42 D.V (m1 : Int) = qq := ⟨_, rfl⟩
  rw [hpp] at hp0 hp1 hp2
  rw [hqq] at hq0 hq1 hq2
  have HPP := Aside0.mk hpp
  have HQQ := Aside0.mk hqq
  clear hpp hqq
  have e0 : Below w.heap.size w (w.alloc (.cells #[.int .i64 0, .int .i64 0, .int .i64 0] 42)) := below_alloc (Below.refl _ w) _
  have a4 := heap_alloc_new w (.cells #[.int .i64 0, .int .i64 0, .int .i64 0] 42)
  obtain ⟨W0, hW0⟩ : ∃ W0, w.alloc (.cells #[.int .i64 0, .int .i64 0, .int .i64 0] 42) = W0 := ⟨_, rfl⟩
  rw [hW0] at e0 a4
  replace hf3 := pw_cell_below e0 hf3
  replace hy0 := pw_cell_below e0 hy0
  replace hy1 := pw_cell_below e0 hy1
  replace hy2 := pw_cell_below e0 hy2
  replace hy3 := pw_cell_below e0 hy3
  have e1 : Below W0.heap.size W0 (W0.alloc (.cells #[.int .i64 m0, .int .i64 m1, .int .i64 x2, .int .i64 x3] 47)) := below_alloc (Below.refl _ W0) _
  have b5 := heap_alloc_new W0 (.cells #[.int .i64 m0, .int .i64 m1, .int .i64 x2, .int .i64 x3] 47)
  have b4 := (e1.block _ (lt_of_block a4)).trans a4
  obtain ⟨W1, hW1⟩ : ∃ W1, W0.alloc (.cells #[.int .i64 m0, .int .i64 m1, .int .i64 x2, .int .i64 x3] 47) = W1 := ⟨_, rfl⟩
  rw [hW1] at e1 b5 b4
  obtain ⟨g5, hg5⟩ : ∃ g5, W0.heap.size = g5 := ⟨_, rfl⟩
  rw [hg5] at b5
  have e2 : Below W1.heap.size W1 (W1.alloc (.cells #[.int .i64 0, .int .i64 0, .int .i64 0] 108)) := below_alloc (Below.refl _ W1) _
  have c6 := heap_alloc_new W1 (.cells #[.int .i64 0, .int .i64 0, .int .i64 0] 108)
  have c5 := (e2.block _ (lt_of_block b5)).trans b5
  have c4 := (e2.block _ (lt_of_block b4)).trans b4
  obtain ⟨W2, hW2⟩ : ∃ W2, W1.alloc (.cells #[.int .i64 0, .int .i64 0, .int .i64 0] 108) = W2 := ⟨_, rfl⟩
  rw [hW2] at e2 c6 c5 c4
  obtain ⟨g6, hg6⟩ : ∃ g6, W1.heap.size = g6 := ⟨_, rfl⟩
  rw [hg6] at c6
  obtain ⟨g4, hg4⟩ : ∃ g4, w.heap.size = g4 := ⟨_, rfl⟩
  rw [hg4] at c4
  have HE2 := Aside0.mk (below_then (below_then e0 e0.size e1) (by have := e0.size; have := e1.size; omega) e2)
  have H4 := Aside0.mk c4
  have H5 := Aside0.mk c5
  have H6 := Aside0.mk c6
  have hne : g4 < g5 ∧ g5 < g6 := ⟨by rw [← hg4, ← hg5]; exact lt_of_block a4, by rw [← hg6]; exact lt_of_block b5⟩
  obtain ⟨h45, h56⟩ := hne
  clear e0 a4 e1 b5 b4 e2 c6 c5 c4
  have HG4 := Aside0.mk hg4
  have HP0 := Aside0.mk hp0
  have HP1 := Aside0.mk hp1
  have HP2 := Aside0.mk hp2
  have HQ0 := Aside0.mk hq0
  have HQ1 := Aside0.mk hq1
  have HQ2 := Aside0.mk hq2
  have HF0 := Aside0.mk hf0
  have HF6 := Aside0.mk hf6
  have HF8 := Aside0.mk hf8
  have HSH := Aside0.mk hsh
  clear hp0 hp1 hp2 hq0 hq1 hq2 hf0 hf6 hf8 hsh
  go_enter Try.func36, Try.ntmps36
  go_wp2_with fail
  clear hg5 hg6 hg4 hW0 hW1 hW2 hf3 hy0 hy1 hy2 hy3
  refine start_ (n := 20) (S := (fun w' => w'.cell? ⟨fb, 0, none⟩ = some (.slice (some ad) D.V.length D.c0) ∧ w'.cell? ⟨g5, 0, none⟩ = some (.int .i64 m0) ∧ w'.cell? ⟨g5, 1, none⟩ = some (.int .i64 m1) ∧ w'.cell? (ad.add (m0 * 3)) = some (.int .i64 pp.f0) ∧ w'.cell? ⟨(ad.add (m0 * 3)).block, (ad.add (m0 * 3)).off + 1, none⟩ = some (.int .i64 pp.f1) ∧ w'.cell? ⟨(ad.add (m0 * 3)).block, (ad.add (m0 * 3)).off + 2, none⟩ = some (.int .i64 pp.f2) ∧ w'.cell? (ad.add (m1 * 3)) = some (.int .i64 qq.f0) ∧ w'.cell? ⟨(ad.add (m1 * 3)).block, (ad.add (m1 * 3)).off + 1, none⟩ = some (.int .i64 qq.f1) ∧ w'.cell? ⟨(ad.add (m1 * 3)).block, (ad.add (m1 * 3)).off + 2, none⟩ = some (.int .i64 qq.f2))) (ds := [18, 19]) #[false, false, false, false, false, false, false, false, false, false, false, false, false, false, false, false, false, false, false, false] (by kernel_rfl) rfl rfl ⟨pw_cell_below (below_drew HE2.out) HF0.out, (blk_cell (blk_drew H5.out) 0).trans rfl, (blk_cell (blk_drew H5.out) 1).trans rfl, pw_cell_below (below_drew HE2.out) HP0.out, pw_cell_below (below_drew HE2.out) HP1.out, pw_cell_below (below_drew HE2.out) HP2.out, pw_cell_below (below_drew HE2.out) HQ0.out, pw_cell_below (below_drew HE2.out) HQ1.out, pw_cell_below (below_drew HE2.out) HQ2.out⟩ (fun hHeld => ?_)
  have HE3 := Aside0.mk (below_drew HE2.out)
  have K4 := Aside0.mk (blk_drew H4.out)
  have K5 := Aside0.mk (blk_drew H5.out)
  have K6 := Aside0.mk (blk_drew H6.out)
  generalize W2.drew = W3 at hHeld HE3 K4 K5 K6 ⊢
  clear HE2 H4 H5 H6
  refine pure_ (i := 0) (N := some 15) (v := ?_) (a' := ?_) #[true, false, false, false, false, false, false, false, false, false, false, false, false, false, false, false, false, false, false, false] rfl rfl (by kernel_rfl) (fun _ _ _ h => h) (Or.inl ⟨by rfl, ?_⟩) ?_ ?_
  rotate_left
  · (intro w'; go_simp; with_reducible rfl)
  rotate_left
  · (simp only [Act.put, List.setIfInBounds_toArray, List.set_cons_zero, List.set_cons_succ, i64_w, i32_w]; rfl)
  refine pure_ (i := 1) (N := some 16) (v := ?_) (a' := ?_) #[true, true, false, false, false, false, false, false, false, false, false, false, false, false, false, false, false, false, false, false] rfl rfl (by kernel_rfl) (fun _ _ _ h => h) (Or.inl ⟨by rfl, ?_⟩) ?_ ?_
  rotate_left
  · (intro w'; go_simp; with_reducible rfl)
  rotate_left
  · (simp only [Act.put, List.setIfInBounds_toArray, List.set_cons_zero, List.set_cons_succ, i64_w, i32_w]; rfl)
  refine pure_ (i := 2) (N := some 17) (v := ?_) (a' := ?_) #[true, true, true, false, false, false, false, false, false, false, false, false, false, false, false, false, false, false, false, false] rfl rfl (by kernel_rfl) (fun _ _ _ h => h) (Or.inl ⟨by rfl, ?_⟩) ?_ ?_
  rotate_left
  · (intro w'; go_simp; with_reducible rfl)
  rotate_left
  · (simp only [Act.put, List.setIfInBounds_toArray, List.set_cons_zero, List.set_cons_succ, i64_w, i32_w]; rfl)
  refine pure_ (i := 3) (N := some 18) (v := ?_) (a' := ?_) #[true, true, true, true, false, false, false, false, false, false, false, false, false, false, false, false, false, false, false, false] rfl rfl (by kernel_rfl) (fun _ _ _ h => h) (Or.inl ⟨by rfl, ?_⟩) ?_ ?_
  rotate_left
  · (intro w'; go_simp; with_reducible rfl)
  rotate_left
  · (simp only [Act.put, List.setIfInBounds_toArray, List.set_cons_zero, List.set_cons_succ, i64_w, i32_w]; rfl)
  refine take_ (i := 4) (N := some 19) (v := ?_) (a' := ?_) #[true, true, true, true, true, false, false, false, false, false, false, false, false, false, false, false, false, false, false, false] rfl rfl (by kernel_rfl) (fun _ _ _ h => h) (Or.inl ⟨by rfl, ?_⟩) (by assumption) ?_ ?_
  rotate_left
  · (intro w' hSw; (try dsimp only at hSw); go_split_ands; go_simp; with_reducible rfl)
  rotate_left
  · (simp only [Act.put, List.setIfInBounds_toArray, List.set_cons_zero, List.set_cons_succ, i64_w, i32_w]; rfl)
  refine pure_ (i := 5) (N := some 20) (v := ?_) (a' := ?_) #[true, true, true, true, true, true, false, false, false, false, false, false, false, false, false, false, false, false, false, false] rfl rfl (by kernel_rfl) (fun _ _ _ h => h) (Or.inl ⟨by rfl, ?_⟩) ?_ ?_
  rotate_left
  · (intro w'; go_simp; with_reducible rfl)
  rotate_left
  · (simp only [Act.put, List.setIfInBounds_toArray, List.set_cons_zero, List.set_cons_succ, i64_w, i32_w]; rfl)
  refine take_ (i := 6) (N := some 21) (v := ?_) (a' := ?_) #[true, true, true, true, true, true, true, false, false, false, false, false, false, false, false, false, false, false, false, false] rfl rfl (by kernel_rfl) (fun _ _ _ h => h) (Or.inl ⟨by rfl, ?_⟩) (by assumption) ?_ ?_
  rotate_left
  · (intro w' hSw; (try dsimp only at hSw); go_split_ands; go_simp; with_reducible rfl)
  rotate_left
  · (simp only [Act.put, List.setIfInBounds_toArray, List.set_cons_zero, List.set_cons_succ, i64_w, i32_w]; rfl)
  refine pure_ (i := 7) (N := some 22) (v := ?_) (a' := ?_) #[true, true, true, true, true, true, true, true, false, false, false, false, false, false, false, false, false, false, false, false] rfl rfl (by kernel_rfl) (fun _ _ _ h => h) (Or.inl ⟨by rfl, ?_⟩) ?_ ?_
  rotate_left
  · (intro w'; go_simp; with_reducible rfl)
  rotate_left
  · (simp only [Act.put, List.setIfInBounds_toArray, List.set_cons_zero, List.set_cons_succ, i64_w, i32_w]; rfl)
  refine take_ (i := 8) (N := some 23) (v := ?_) (a' := ?_) #[true, true, true, true, true, true, true, true, true, false, false, false, false, false, false, false, false, false, false, false] rfl rfl (by kernel_rfl) (fun _ _ _ h => h) (Or.inl ⟨by rfl, ?_⟩) (by assumption) ?_ ?_
  rotate_left
  · (intro w' hSw; (try dsimp only at hSw); go_split_ands; go_simp; with_reducible rfl)
  rotate_left
  · (simp only [Act.put, List.setIfInBounds_toArray, List.set_cons_zero, List.set_cons_succ, i64_w, i32_w]; rfl)
  refine pure_ (i := 9) (N := some 24) (v := ?_) (a' := ?_) #[true, true, true, true, true, true, true, true, true, true, false, false, false, false, false, false, false, false, false, false] rfl rfl (by kernel_rfl) (fun _ _ _ h => h) (Or.inl ⟨by rfl, ?_⟩) ?_ ?_
  rotate_left
  · (intro w'; go_simp; with_reducible rfl)
  rotate_left
  · (simp only [Act.put, List.setIfInBounds_toArray, List.set_cons_zero, List.set_cons_succ, i64_w, i32_w]; rfl)
  refine pure_ (i := 10) (N := some 25) (v := ?_) (a' := ?_) #[true, true, true, true, true, true, true, true, true, true, true, false, false, false, false, false, false, false, false, false] rfl rfl (by kernel_rfl) (fun _ _ _ h => h) (Or.inl ⟨by rfl, ?_⟩) ?_ ?_
  rotate_left
  · (intro w'; go_simp; with_reducible rfl)
  rotate_left
  · (simp only [Act.put, List.setIfInBounds_toArray, List.set_cons_zero, List.set_cons_succ, i64_w, i32_w]; rfl)
  refine pure_ (i := 11) (N := some 26) (v := ?_) (a' := ?_) #[true, true, true, true, true, true, true, true, true, true, true, true, false, false, false, false, false, false, false, false] rfl rfl (by kernel_rfl) (fun _ _ _ h => h) (Or.inl ⟨by rfl, ?_⟩) ?_ ?_
  rotate_left
  · (intro w'; go_simp; with_reducible rfl)
  rotate_left
  · (simp only [Act.put, List.setIfInBounds_toArray, List.set_cons_zero, List.set_cons_succ, i64_w, i32_w]; rfl)
  refine pure_ (i := 12) (N := some 27) (v := ?_) (a' := ?_) #[true, true, true, true, true, true, true, true, true, true, true, true, true, false, false, false, false, false, false, false] rfl rfl (by kernel_rfl) (fun _ _ _ h => h) (Or.inl ⟨by rfl, ?_⟩) ?_ ?_
  rotate_left
  · (intro w'; go_simp; with_reducible rfl)
  rotate_left
  · (simp only [Act.put, List.setIfInBounds_toArray, List.set_cons_zero, List.set_cons_succ, i64_w, i32_w]; rfl)
  refine take_ (i := 13) (N := some 28) (v := ?_) (a' := ?_) #[true, true, true, true, true, true, true, true, true, true, true, true, true, true, false, false, false, false, false, false] rfl rfl (by kernel_rfl) (fun _ _ _ h => h) (Or.inl ⟨by rfl, ?_⟩) (by assumption) ?_ ?_
  rotate_left
  · (intro w' hSw; (try dsimp only at hSw); go_split_ands; go_simp; with_reducible rfl)
  rotate_left
  · (simp only [Act.put, List.setIfInBounds_toArray, List.set_cons_zero, List.set_cons_succ, i64_w, i32_w]; rfl)
  refine pure_ (i := 14) (N := some 29) (v := ?_) (a' := ?_) #[true, true, true, true, true, true, true, true, true, true, true, true, true, true, true, false, false, false, false, false] rfl rfl (by kernel_rfl) (fun _ _ _ h => h) (Or.inl ⟨by rfl, ?_⟩) ?_ ?_
  rotate_left
  · (intro w'; go_simp; with_reducible rfl)
  rotate_left
  · (simp only [Act.put, List.setIfInBounds_toArray, List.set_cons_zero, List.set_cons_succ, i64_w, i32_w]; rfl)
  refine take_ (i := 15) (N := some 30) (v := ?_) (a' := ?_) #[true, true, true, true, true, true, true, true, true, true, true, true, true, true, true, true, false, false, false, false] rfl rfl (by kernel_rfl) (fun _ _ _ h => h) (Or.inl ⟨by rfl, ?_⟩) (by assumption) ?_ ?_
  rotate_left
  · (intro w' hSw; (try dsimp only at hSw); go_split_ands; go_simp; with_reducible rfl)
  rotate_left
  · (simp only [Act.put, List.setIfInBounds_toArray, List.set_cons_zero, List.set_cons_succ, i64_w, i32_w]; rfl)
  refine pure_ (i := 16) (N := some 31) (v := ?_) (a' := ?_) #[true, true, true, true, true, true, true, true, true, true, true, true, true, true, true, true, true, false, false, false] rfl rfl (by kernel_rfl) (fun _ _ _ h => h) (Or.inl ⟨by rfl, ?_⟩) ?_ ?_
  rotate_left
  · (intro w'; go_simp; with_reducible rfl)
  rotate_left
  · (simp only [Act.put, List.setIfInBounds_toArray, List.set_cons_zero, List.set_cons_succ, i64_w, i32_w]; rfl)
  refine take_ (i := 17) (N := some 32) (v := ?_) (a' := ?_) #[true, true, true, true, true, true, true, true, true, true, true, true, true, true, true, true, true, true, false, false] rfl rfl (by kernel_rfl) (fun _ _ _ h => h) (Or.inl ⟨by rfl, ?_⟩) (by assumption) ?_ ?_
  rotate_left
  · (intro w' hSw; (try dsimp only at hSw); go_split_ands; go_simp; with_reducible rfl)
  rotate_left
  · (simp only [Act.put, List.setIfInBounds_toArray, List.set_cons_zero, List.set_cons_succ, i64_w, i32_w]; rfl)
  refine last_ (i := 18) (N := some 33) #[true, true, true, true, true, true, true, true, true, true, true, true, true, true, true, true, true, true, true, false] rfl rfl (by kernel_rfl) (by decide) (fun K hK => ?_)
  refine value_ (v := .slice (some ⟨W3.heap.size, 0, none⟩) 2 2) (w1 := W3.alloc (.cells #[.int .i64 pp.f0, .int .i64 pp.f1, .int .i64 pp.f2, .int .i64 qq.f0, .int .i64 qq.f1, .int .i64 qq.f2] 42)) (by rfl) rfl (by go_simp) ?_
  refine hK.out _ _ ?_
  clear hK K
  refine norm_ (a' := ?_) ?_ ?_
  rotate_left
  · (simp only [Act.put, List.setIfInBounds_toArray, List.set_cons_zero, List.set_cons_succ, i64_w, i32_w]; rfl)
  refine last_ (i := 19) (N := some 34) #[true, true, true, true, true, true, true, true, true, true, true, true, true, true, true, true, true, true, true, true] rfl rfl (by kernel_rfl) (by decide) (fun K hK => ?_)
  refine goes_ Try.func53 (by kernel_rfl) rfl #[.pointer (some ⟨g6, 0, none⟩), .int .i64 1, .slice (some ⟨W3.heap.size, 0, none⟩) 2 2] (by rfl) rfl rfl (by (try simp only [List.map_toArray, List.map_cons, List.map_nil]); rfl) ?_
  refine (add2_calls W3 g6 z42 pp qq 1 K6.out).mono ?_
  rintro e W4 ⟨rfl, h6, hg⟩
  refine ⟨_, rfl, ?_⟩
  have HE4 := Aside0.mk (HE3.out.grown hg HE3.out.size (fun k hk => by cases hk; have := HG4.out; omega))
  have J4 := Aside0.mk ((hg.block _ (lt_of_block K4.out) (fun e => by injection e with e; omega)).trans K4.out)
  have J5 := Aside0.mk ((hg.block _ (lt_of_block K5.out) (fun e => by injection e with e; omega)).trans K5.out)
  have J6 := Aside0.mk h6
  clear h6 hg hHeld HE3 K4 K5 K6
  refine hK.out _ _ ?_
  clear hK K
  refine norm_ (a' := ?_) ?_ ?_
  rotate_left
  · (simp only [Act.put, List.setIfInBounds_toArray, List.set_cons_zero, List.set_cons_succ, i64_w, i32_w]; rfl)
  refine done_ (by kernel_rfl) ?_
  have hf6 := pw_cell_below HE4.out HF6.out
  have hsh := pw_cell_below HE4.out HSH.out
  by_cases hz : sh = 0
  · have hz1 : (sh != 0) = false := by simp [hz]
    obtain ⟨hk0, hk1, hk2, hk3⟩ := HFF.out hz
    have hz2 : (sh == 0) = true := by simp [hz]
    have HRR : Aside0 (ofV (plus 1 (plus 1 (plus 1 (plus 1 z42 pp) qq) (rd_T42 D.FV x2)) (rd_T42 D.FV x3)) 4 = res) := ⟨by
      rw [← HRES.out]
      unfold edgePt
      rw [if_pos hz, HPP.out, HQQ.out]⟩
    obtain ⟨ad8, hA8, hu0, hu1, hu2⟩ := at_T42 HD.out.fv x2 hk0 hk1
    obtain ⟨ad9, hA9, hv0, hv1, hv2⟩ := at_T42 HD.out.fv x3 hk2 hk3
    obtain rfl : ad8 = ad9 := by rw [hA8] at hA9; exact Option.some.inj hA9
    have hf8 := HF8.out
    rw [hA8] at hf8
    have HF8' := Aside0.mk hf8
    clear hA8 hA9 hf8 HF8
    obtain ⟨n0, hn0⟩ : ∃ m : Nat, (m : Int) = x2 := ⟨x2.toNat, by omega⟩
    subst hn0
    obtain ⟨n1, hn1⟩ : ∃ m : Nat, (m : Int) = x3 := ⟨x3.toNat, by omega⟩
    subst hn1
    rw [Int.toNat_natCast] at hu0 hu1 hu2 hv0 hv1 hv2
    generalize rd_T42 D.FV (n0 : Int) = uu at hu0 hu1 hu2 HRR
    generalize rd_T42 D.FV (n1 : Int) = vv at hv0 hv1 hv2 HRR
    have HU0 := Aside0.mk (pw_cell_below HE4.out hu0)
    have HU1 := Aside0.mk (pw_cell_below HE4.out hu1)
    have HU2 := Aside0.mk (pw_cell_below HE4.out hu2)
    have HV0 := Aside0.mk (pw_cell_below HE4.out hv0)
    have HV1 := Aside0.mk (pw_cell_below HE4.out hv1)
    have HV2 := Aside0.mk (pw_cell_below HE4.out hv2)
    clear hu0 hu1 hu2 hv0 hv1 hv2
    go_wp2_with fail
    clear hz1 hz2 hf6 hsh
    refine start_ (n := 18) (S := (fun w' => w'.cell? ⟨fb, 8, none⟩ = some (.slice (some ad8) D.FV.length D.c8) ∧ w'.cell? ⟨g5, 2, none⟩ = some (.int .i64 n0) ∧ w'.cell? ⟨g5, 3, none⟩ = some (.int .i64 n1) ∧ w'.cell? (ad8.add (n0 * 3)) = some (.int .i64 uu.f0) ∧ w'.cell? ⟨(ad8.add (n0 * 3)).block, (ad8.add (n0 * 3)).off + 1, none⟩ = some (.int .i64 uu.f1) ∧ w'.cell? ⟨(ad8.add (n0 * 3)).block, (ad8.add (n0 * 3)).off + 2, none⟩ = some (.int .i64 uu.f2) ∧ w'.cell? (ad8.add (n1 * 3)) = some (.int .i64 vv.f0) ∧ w'.cell? ⟨(ad8.add (n1 * 3)).block, (ad8.add (n1 * 3)).off + 1, none⟩ = some (.int .i64 vv.f1) ∧ w'.cell? ⟨(ad8.add (n1 * 3)).block, (ad8.add (n1 * 3)).off + 2, none⟩ = some (.int .i64 vv.f2))) (ds := [16, 17]) #[false, false, false, false, false, false, false, false, false, false, false, false, false, false, false, false, false, false] (by kernel_rfl) rfl rfl ⟨pw_cell_below (below_drew HE4.out) HF8'.out, (blk_cell (blk_drew J5.out) 2).trans rfl, (blk_cell (blk_drew J5.out) 3).trans rfl, HU0.out, HU1.out, HU2.out, HV0.out, HV1.out, HV2.out⟩ (fun hHeld => ?_)
    have HE4' := Aside0.mk (below_drew HE4.out)
    have K4 := Aside0.mk (blk_drew J4.out)
    have K6 := Aside0.mk (blk_drew J6.out)
    generalize W4.drew = W4' at hHeld HE4' K4 K6 ⊢
    clear HE4 J4 J5 J6 HU0 HU1 HU2 HV0 HV1 HV2
    refine pure_ (i := 0) (N := some 44) (v := ?_) (a' := ?_) #[true, false, false, false, false, false, false, false, false, false, false, false, false, false, false, false, false, false] rfl rfl (by kernel_rfl) (fun _ _ _ h => h) (Or.inl ⟨by rfl, ?_⟩) ?_ ?_
    rotate_left
    · (intro w'; go_simp; with_reducible rfl)
    rotate_left
    · (simp only [Act.put, List.setIfInBounds_toArray, List.set_cons_zero, List.set_cons_succ, i64_w, i32_w]; rfl)
    refine pure_ (i := 1) (N := some 45) (v := ?_) (a' := ?_) #[true, true, false, false, false, false, false, false, false, false, false, false, false, false, false, false, false, false] rfl rfl (by kernel_rfl) (fun _ _ _ h => h) (Or.inl ⟨by rfl, ?_⟩) ?_ ?_
    rotate_left
    · (intro w'; go_simp; with_reducible rfl)
    rotate_left
    · (simp only [Act.put, List.setIfInBounds_toArray, List.set_cons_zero, List.set_cons_succ, i64_w, i32_w]; rfl)
    refine pure_ (i := 2) (N := some 46) (v := ?_) (a' := ?_) #[true, true, true, false, false, false, false, false, false, false, false, false, false, false, false, false, false, false] rfl rfl (by kernel_rfl) (fun _ _ _ h => h) (Or.inl ⟨by rfl, ?_⟩) ?_ ?_
    rotate_left
    · (intro w'; go_simp; with_reducible rfl)
    rotate_left
    · (simp only [Act.put, List.setIfInBounds_toArray, List.set_cons_zero, List.set_cons_succ, i64_w, i32_w]; rfl)
    refine take_ (i := 3) (N := some 47) (v := ?_) (a' := ?_) #[true, true, true, true, false, false, false, false, false, false, false, false, false, false, false, false, false, false] rfl rfl (by kernel_rfl) (fun _ _ _ h => h) (Or.inl ⟨by rfl, ?_⟩) (by assumption) ?_ ?_
    rotate_left
    · (intro w' hSw; (try dsimp only at hSw); go_split_ands; go_simp; with_reducible rfl)
    rotate_left
    · (simp only [Act.put, List.setIfInBounds_toArray, List.set_cons_zero, List.set_cons_succ, i64_w, i32_w]; rfl)
    refine pure_ (i := 4) (N := some 48) (v := ?_) (a' := ?_) #[true, true, true, true, true, false, false, false, false, false, false, false, false, false, false, false, false, false] rfl rfl (by kernel_rfl) (fun _ _ _ h => h) (Or.inl ⟨by rfl, ?_⟩) ?_ ?_
    rotate_left
    · (intro w'; go_simp; with_reducible rfl)
    rotate_left
    · (simp only [Act.put, List.setIfInBounds_toArray, List.set_cons_zero, List.set_cons_succ, i64_w, i32_w]; rfl)
    refine take_ (i := 5) (N := some 49) (v := ?_) (a' := ?_) #[true, true, true, true, true, true, false, false, false, false, false, false, false, false, false, false, false, false] rfl rfl (by kernel_rfl) (fun _ _ _ h => h) (Or.inl ⟨by rfl, ?_⟩) (by assumption) ?_ ?_
    rotate_left
    · (intro w' hSw; (try dsimp only at hSw); go_split_ands; go_simp; with_reducible rfl)
    rotate_left
    · (simp only [Act.put, List.setIfInBounds_toArray, List.set_cons_zero, List.set_cons_succ, i64_w, i32_w]; rfl)
    refine pure_ (i := 6) (N := some 50) (v := ?_) (a' := ?_) #[true, true, true, true, true, true, true, false, false, false, false, false, false, false, false, false, false, false] rfl rfl (by kernel_rfl) (fun _ _ _ h => h) (Or.inl ⟨by rfl, ?_⟩) ?_ ?_
    rotate_left
    · (intro w'; go_simp; with_reducible rfl)
    rotate_left
    · (simp only [Act.put, List.setIfInBounds_toArray, List.set_cons_zero, List.set_cons_succ, i64_w, i32_w]; rfl)
    refine take_ (i := 7) (N := some 51) (v := ?_) (a' := ?_) #[true, true, true, true, true, true, true, true, false, false, false, false, false, false, false, false, false, false] rfl rfl (by kernel_rfl) (fun _ _ _ h => h) (Or.inl ⟨by rfl, ?_⟩) (by assumption) ?_ ?_
    rotate_left
    · (intro w' hSw; (try dsimp only at hSw); go_split_ands; go_simp; with_reducible rfl)
    rotate_left
    · (simp only [Act.put, List.setIfInBounds_toArray, List.set_cons_zero, List.set_cons_succ, i64_w, i32_w]; rfl)
    refine pure_ (i := 8) (N := some 52) (v := ?_) (a' := ?_) #[true, true, true, true, true, true, true, true, true, false, false, false, false, false, false, false, false, false] rfl rfl (by kernel_rfl) (fun _ _ _ h => h) (Or.inl ⟨by rfl, ?_⟩) ?_ ?_
    rotate_left
    · (intro w'; go_simp; with_reducible rfl)
    rotate_left
    · (simp only [Act.put, List.setIfInBounds_toArray, List.set_cons_zero, List.set_cons_succ, i64_w, i32_w]; rfl)
    refine pure_ (i := 9) (N := some 53) (v := ?_) (a' := ?_) #[true, true, true, true, true, true, true, true, true, true, false, false, false, false, false, false, false, false] rfl rfl (by kernel_rfl) (fun _ _ _ h => h) (Or.inl ⟨by rfl, ?_⟩) ?_ ?_
    rotate_left
    · (intro w'; go_simp; with_reducible rfl)
    rotate_left
    · (simp only [Act.put, List.setIfInBounds_toArray, List.set_cons_zero, List.set_cons_succ, i64_w, i32_w]; rfl)
    refine pure_ (i := 10) (N := some 54) (v := ?_) (a' := ?_) #[true, true, true, true, true, true, true, true, true, true, true, false, false, false, false, false, false, false] rfl rfl (by kernel_rfl) (fun _ _ _ h => h) (Or.inl ⟨by rfl, ?_⟩) ?_ ?_
    rotate_left
    · (intro w'; go_simp; with_reducible rfl)
    rotate_left
    · (simp only [Act.put, List.setIfInBounds_toArray, List.set_cons_zero, List.set_cons_succ, i64_w, i32_w]; rfl)
    refine take_ (i := 11) (N := some 55) (v := ?_) (a' := ?_) #[true, true, true, true, true, true, true, true, true, true, true, true, false, false, false, false, false, false] rfl rfl (by kernel_rfl) (fun _ _ _ h => h) (Or.inl ⟨by rfl, ?_⟩) (by assumption) ?_ ?_
    rotate_left
    · (intro w' hSw; (try dsimp only at hSw); go_split_ands; go_simp; with_reducible rfl)
    rotate_left
    · (simp only [Act.put, List.setIfInBounds_toArray, List.set_cons_zero, List.set_cons_succ, i64_w, i32_w]; rfl)
    refine pure_ (i := 12) (N := some 56) (v := ?_) (a' := ?_) #[true, true, true, true, true, true, true, true, true, true, true, true, true, false, false, false, false, false] rfl rfl (by kernel_rfl) (fun _ _ _ h => h) (Or.inl ⟨by rfl, ?_⟩) ?_ ?_
    rotate_left
    · (intro w'; go_simp; with_reducible rfl)
    rotate_left
    · (simp only [Act.put, List.setIfInBounds_toArray, List.set_cons_zero, List.set_cons_succ, i64_w, i32_w]; rfl)
    refine take_ (i := 13) (N := some 57) (v := ?_) (a' := ?_) #[true, true, true, true, true, true, true, true, true, true, true, true, true, true, false, false, false, false] rfl rfl (by kernel_rfl) (fun _ _ _ h => h) (Or.inl ⟨by rfl, ?_⟩) (by assumption) ?_ ?_
    rotate_left
    · (intro w' hSw; (try dsimp only at hSw); go_split_ands; go_simp; with_reducible rfl)
    rotate_left
    · (simp only [Act.put, List.setIfInBounds_toArray, List.set_cons_zero, List.set_cons_succ, i64_w, i32_w]; rfl)
    refine pure_ (i := 14) (N := some 58) (v := ?_) (a' := ?_) #[true, true, true, true, true, true, true, true, true, true, true, true, true, true, true, false, false, false] rfl rfl (by kernel_rfl) (fun _ _ _ h => h) (Or.inl ⟨by rfl, ?_⟩) ?_ ?_
    rotate_left
    · (intro w'; go_simp; with_reducible rfl)
    rotate_left
    · (simp only [Act.put, List.setIfInBounds_toArray, List.set_cons_zero, List.set_cons_succ, i64_w, i32_w]; rfl)
    refine take_ (i := 15) (N := some 59) (v := ?_) (a' := ?_) #[true, true, true, true, true, true, true, true, true, true, true, true, true, true, true, true, false, false] rfl rfl (by kernel_rfl) (fun _ _ _ h => h) (Or.inl ⟨by rfl, ?_⟩) (by assumption) ?_ ?_
    rotate_left
    · (intro w' hSw; (try dsimp only at hSw); go_split_ands; go_simp; with_reducible rfl)
    rotate_left
    · (simp only [Act.put, List.setIfInBounds_toArray, List.set_cons_zero, List.set_cons_succ, i64_w, i32_w]; rfl)
    refine last_ (i := 16) (N := some 60) #[true, true, true, true, true, true, true, true, true, true, true, true, true, true, true, true, true, false] rfl rfl (by kernel_rfl) (by decide) (fun K hK => ?_)
    refine value_ (v := .slice (some ⟨W4'.heap.size, 0, none⟩) 2 2) (w1 := W4'.alloc (.cells #[.int .i64 uu.f0, .int .i64 uu.f1, .int .i64 uu.f2, .int .i64 vv.f0, .int .i64 vv.f1, .int .i64 vv.f2] 42)) (by rfl) rfl (by go_simp) ?_
    refine hK.out _ _ ?_
    clear hK K
    refine norm_ (a' := ?_) ?_ ?_
    rotate_left
    · (simp only [Act.put, List.setIfInBounds_toArray, List.set_cons_zero, List.set_cons_succ, i64_w, i32_w]; rfl)
    refine last_ (i := 17) (N := some 61) #[true, true, true, true, true, true, true, true, true, true, true, true, true, true, true, true, true, true] rfl rfl (by kernel_rfl) (by decide) (fun K hK => ?_)
    refine goes_ Try.func53 (by kernel_rfl) rfl #[.pointer (some ⟨g6, 0, none⟩), .int .i64 1, .slice (some ⟨W4'.heap.size, 0, none⟩) 2 2] (by rfl) rfl rfl (by (try simp only [List.map_toArray, List.map_cons, List.map_nil]); rfl) ?_
    refine (add2_calls W4' g6 _ uu vv 1 K6.out).mono ?_
    rintro e W5 ⟨rfl, h6, hg⟩
    refine ⟨_, rfl, ?_⟩
    have HE5 := Aside0.mk (HE4'.out.grown hg HE4'.out.size (fun k hk => by cases hk; have := HG4.out; omega))
    have M4 := Aside0.mk ((hg.block _ (lt_of_block K4.out) (fun e => by injection e with e; omega)).trans K4.out)
    have hO := sum_of_calls W5 g6 _ 4 h6
    clear h6 hg hHeld HE4' K4 K6
    refine hK.out _ _ ?_
    clear hK K
    refine norm_ (a' := ?_) ?_ ?_
    rotate_left
    · (simp only [Act.put, List.setIfInBounds_toArray, List.set_cons_zero, List.set_cons_succ, i64_w, i32_w]; rfl)
    refine done_ (by kernel_rfl) ?_
    rw [HRR.out] at hO
    obtain ⟨r0, r1, r2⟩ := res
    have HO2 : Aside0 (Calls Try.prog 54 #[.pointer (some ⟨g6, 0, none⟩), .int .i64 4] W5 fun e w' => e = .returned (.agg #[.int .i64 r0, .int .i64 r1, .int .i64 r2]) ∧ Below W5.heap.size W5 w') := ⟨hO⟩
    clear hO
    go_wp2_with fail
    refine HO2.out.mono ?_
    rintro e W6 ⟨rfl, hb5⟩
    have h94 := (hb5.block _ (lt_of_block M4.out)).trans M4.out
    have HB9 := Aside0.mk (below_then HE5.out HE5.out.size hb5)
    clear hb5
    go_wp2_with (first | (refine gate_ (.store 42 (.tmp 4) (.tmp 62)) rfl ?_; refine store_own (g := g4) (j := 0) 42 (.tmp 4) (.tmp 62) rfl rfl rfl (.agg #[.int .i64 r0, .int .i64 r1, .int .i64 r2]) [.int .i64 r0, .int .i64 r1, .int .i64 r2] rfl rfl rfl infoS42 (one3 _ _ _) h94 (by simp) ?_))
    intro w3 hg3 cur3 hb3 hl3 hs3
    obtain rfl : cur3 = #[.int .i64 r0, .int .i64 r1, .int .i64 r2] := by
      rw [← Array.toList_inj]
      simpa using hl3
    have HB3 : Aside0 (Below w.heap.size w w3) := ⟨HB9.out.grown hg3 HB9.out.size (fun k hk => by cases hk; have := HG4.out; omega)⟩
    clear hg3 hl3 hs3
    go_wp2_with fail
    refine bodyPost_ret (results_cell_row rfl _ _ g4 42 #[.int .i64 r0, .int .i64 r1, .int .i64 r2] (0, 0) _ rfl hb3 Try.underlying42 rfl (by kernel_rfl)) rfl ?_
    exact ⟨rfl, HB3.out⟩
  · have hz1 : (sh != 0) = true := by simp [hz]
    have hz2 : (sh == 0) = false := by simp [hz]
    have HRR : Aside0 (ofV (plus 1 (plus 1 z42 pp) qq) 2 = res) := ⟨by
      rw [← HRES.out]
      unfold edgePt
      rw [if_neg hz, HPP.out, HQQ.out]⟩
    have hO := sum_of_calls W4 g6 _ 2 J6.out
    rw [HRR.out] at hO
    obtain ⟨r0, r1, r2⟩ := res
    have HO : Aside0 (Calls Try.prog 54 #[.pointer (some ⟨g6, 0, none⟩), .int .i64 2] W4 fun e w' => e = .returned (.agg #[.int .i64 r0, .int .i64 r1, .int .i64 r2]) ∧ Below W4.heap.size W4 w') := ⟨hO⟩
    clear hO
    go_wp2_with fail
    refine HO.out.mono ?_
    rintro e W5 ⟨rfl, hb5⟩
    have h94 := (hb5.block _ (lt_of_block J4.out)).trans J4.out
    have HB9 := Aside0.mk (below_then HE4.out HE4.out.size hb5)
    clear hb5
    go_wp2_with (first | (refine gate_ (.store 42 (.tmp 4) (.tmp 43)) rfl ?_; refine store_own (g := g4) (j := 0) 42 (.tmp 4) (.tmp 43) rfl rfl rfl (.agg #[.int .i64 r0, .int .i64 r1, .int .i64 r2]) [.int .i64 r0, .int .i64 r1, .int .i64 r2] rfl rfl rfl infoS42 (one3 _ _ _) h94 (by simp) ?_))
    intro w3 hg3 cur3 hb3 hl3 hs3
    obtain rfl : cur3 = #[.int .i64 r0, .int .i64 r1, .int .i64 r2] := by
      rw [← Array.toList_inj]
      simpa using hl3
    have HB3 : Aside0 (Below w.heap.size w w3) := ⟨HB9.out.grown hg3 HB9.out.size (fun k hk => by cases hk; have := HG4.out; omega)⟩
    clear hg3 hl3 hs3
    go_wp2_with fail
    refine bodyPost_ret (results_cell_row rfl _ _ g4 42 #[.int .i64 r0, .int .i64 r1, .int .i64 r2] (0, 0) _ rfl hb3 Try.underlying42 rfl (by kernel_rfl)) rfl ?_
    exact ⟨rfl, HB3.out⟩
end Go.Proofs.Ytnjdjfengoaleaa.MSub
namespace Go.Proofs.Ytnjdjfengoaleaa.MSub
open Go.RowKit Go.Proofs.YtnjdjfengoaleaaW.PrintWords Go.Proofs.YtnjdjfengoaleaaW.PrintLast Go.Proofs.YtnjdjfengoaleaaW.PrintMore
open Go.Proofs.Ytnjdjfengoaleaa.Relv
set_option linter.unusedVariables false
set_option linter.unusedSimpArgs false
def edgedM (e : S47) : Bool := decide (mn e.f2 e.f3 < 0)
def nextS (s : Int) : Int := if s = 255 then 255 else wrap64 (s - 1)
def creasesOf (n : Nat) (e : S47) (s i : Int) : List S53 := if edgedM e || decide (nextS s < 1) then [] else [⟨e.f0, n + i, nextS s⟩, ⟨e.f1, n + i, nextS s⟩]
theorem infoS47 : (Try.prog.info? 47).map (·.size) = some 4 := by kernel_rfl
theorem pairR {W : World} {b base : Nat} {p q : S53} (h : W.heap[b]? = some (.cells #[.int .i64 p.f0, .int .i64 p.f1, .int .i64 p.f2, .int .i64 q.f0, .int .i64 q.f1, .int .i64 q.f2] 53 (0, 0))) (hb : base ≤ b) : Kd.R k53 53 W base (fun _ => True) (.slice (some ⟨b, 0, none⟩) 2 2) [p, q] := by
  refine ⟨fun _ _ => trivial, [.int .i64 p.f0, .int .i64 p.f1, .int .i64 p.f2, .int .i64 q.f0, .int .i64 q.f1, .int .i64 q.f2], ⟨rfl, .inr ⟨b, 2, _, rfl, hb, h, by simp, by decide, rfl, rfl⟩⟩, rfl, fun j r hj => ?_⟩
  match j, hj with
  | 0, hj => cases hj; exact k53_mkM _ _ _ p
  | 1, hj => cases hj; exact k53_mkM _ _ _ q
  | j + 2, hj => simp at hj
set_option maxHeartbeats 1000000 in
set_option maxRecDepth 100000 in
theorem creases_calls (w : World) (fb : Nat) (D : Fin_) (i : Int) (hD : FinerR w fb D) (hi0 : 0 ≤ i) (hi1 : i < D.ES.length) (hi2 : i < D.SH.length)
    (hn : D.V.length ≤ 1099511627776) (hn2 : D.ES.length ≤ 1099511627776) :
    Calls Try.prog 37 #[.pointer (some ⟨fb, 0, none⟩), .int .i64 i] w fun e w' => ∃ v0 : Value, e = .returned v0 ∧ Kd.R k53 53 w' w.heap.size (fun _ => True) v0 (creasesOf D.V.length (rd_T47 D.ES i) (rd D.SH i) i) ∧ Below w.heap.size w w' := by
  obtain ⟨ade, hA3, hy0, hy1, hy2, hy3⟩ := at_T47 hD.es i hi0 hi1
  obtain ⟨ads, hA6, hsh⟩ := Kd.at_int hD.sh i hi0 hi2
  have hf0 := (hD.cell 0).trans (rfl : _ = some (Value.slice D.A0 D.V.length D.c0))
  have hf3 := (hD.cell 3).trans (rfl : _ = some (Value.slice D.A3 D.ES.length D.c3))
  have hf4 := (hD.cell 4).trans (rfl : _ = some (Value.slice D.A4 D.FN.length D.c4))
  have hf5 := (hD.cell 5).trans (rfl : _ = some (Value.slice D.A5 D.RD.length D.c5))
  have hf6 := (hD.cell 6).trans (rfl : _ = some (Value.slice D.A6 D.SH.length D.c6))
  have hed : topo_Edged.f D.ES D.FN D.RD i = some (edgedM (rd_T47 D.ES i)) := by
    unfold topo_Edged.f
    rw [if_pos (by omega), if_pos hi1, if_pos hi0]
    rfl
  have HED := Aside0.mk (topo_Edged.calls D.A3 D.c3 D.ES D.A4 D.c4 D.FN D.A5 D.c5 D.RD i _ w hD.es hD.c3 hD.fn hD.c4 hD.rd hD.c5 hed)
  rw [hA6] at hf6
  obtain ⟨res, hres⟩ : ∃ res, creasesOf D.V.length (rd_T47 D.ES i) (rd D.SH i) i = res := ⟨_, rfl⟩
  rw [hres]
  obtain ⟨sh, hshe⟩ : ∃ sh, rd D.SH i = sh := ⟨_, rfl⟩
  rw [hshe] at hsh hres
  obtain ⟨ed, hede⟩ : ∃ ed, rd_T47 D.ES i = ed := ⟨_, rfl⟩
  rw [hede] at hy0 hy1 hy2 hy3 hres HED
  obtain ⟨x0, x1, x2, x3⟩ := ed
  simp only at hy0 hy1 hy2 hy3
  obtain ⟨eb, heb⟩ : ∃ eb, edgedM ⟨x0, x1, x2, x3⟩ = eb := ⟨_, rfl⟩
  rw [heb] at HED
  have HD := Aside0.mk hD
  have HRES := Aside0.mk hres
  have HEB := Aside0.mk heb
  have HA3 := Aside0.mk hA3
  clear hres hshe hede hed heb hD hA6
  rw [HA3.out] at HED hf3
  obtain ⟨ns, hns⟩ : ∃ ns, nextS sh = ns := ⟨_, rfl⟩
  have HNS := Aside0.mk hns
  by_cases h255 : sh = 255
  · have hq : (sh != 255) = false := by simp [h255]
    obtain rfl : ns = sh := by rw [← hns]; unfold nextS; rw [if_pos h255, h255]
    have H255 := Aside0.mk h255
    clear hns h255
    go_enter Try.func37, Try.ntmps37
    go_wp2_with fail
    refine HED.out.mono ?_
    rintro e W1 ⟨rfl, hb1⟩
    have HB1 := Aside0.mk hb1
    have hf0' := pw_cell_below hb1 hf0
    have hf3' := pw_cell_below hb1 hf3
    have hy0' := pw_cell_below hb1 hy0
    have hy1' := pw_cell_below hb1 hy1
    have hy2' := pw_cell_below hb1 hy2
    have hy3' := pw_cell_below hb1 hy3
    have HW0 := Aside0.mk hf0
    have HW3 := Aside0.mk hf3
    have HY0 := Aside0.mk hy0
    have HY1 := Aside0.mk hy1
    have HY2 := Aside0.mk hy2
    have HY3 := Aside0.mk hy3
    clear hb1 hf0 hf3 hy0 hy1 hy2 hy3 hf4 hf5 hf6 hsh HED hq
    cases eb with
    | true =>
      have HR : Aside0 (res = []) := ⟨by
        rw [← HRES.out]
        unfold creasesOf
        rw [HEB.out]
        rfl⟩
      go_wp2_with fail
      go_ret
      exact ⟨_, rfl, by rw [HR.out]; exact Kd.R_nil _ _ _ _ _, HB1.out⟩
    | false =>
      by_cases hlt : ns < 1
      · have HR : Aside0 (res = []) := ⟨by
          rw [← HRES.out]
          unfold creasesOf
          rw [HEB.out, HNS.out, decide_eq_true hlt]
          rfl⟩
        have hd := decide_eq_true hlt
        go_wp2_with fail
        go_ret
        exact ⟨_, rfl, by rw [HR.out]; exact Kd.R_nil _ _ _ _ _, HB1.out⟩
      · have HR : Aside0 (res = [⟨x0, D.V.length + i, ns⟩, ⟨x1, D.V.length + i, ns⟩]) := ⟨by
          rw [← HRES.out]
          unfold creasesOf
          rw [HEB.out, HNS.out, decide_eq_false hlt]
          rfl⟩
        have hd : decide (ns < 1) = false := decide_eq_false hlt
        have hwi : IntKind.i64.wrap ((D.V.length : Int) + i) = D.V.length + i := by rw [i64_w, w64_in _ (by omega) (by omega)]
        have hG0 := Aside0.mk hf0'
        have hG3 := Aside0.mk hf3'
        have hZ0 := Aside0.mk hy0'
        have hZ1 := Aside0.mk hy1'
        have hZ2 := Aside0.mk hy2'
        have hZ3 := Aside0.mk hy3'
        clear hf0' hf3' hy0' hy1' hy2' hy3'
        go_wp2_with fail
        clear hd hlt
        refine start_ (n := 19) (S := (fun w' => w'.cell? ⟨fb, 0, none⟩ = some (.slice D.A0 D.V.length D.c0) ∧ w'.cell? ⟨fb, 3, none⟩ = some (.slice (some ade) D.ES.length D.c3) ∧ w'.cell? (ade.add (i.toNat * 4)) = some (.int .i64 x0) ∧ w'.cell? ⟨(ade.add (i.toNat * 4)).block, (ade.add (i.toNat * 4)).off + 1, none⟩ = some (.int .i64 x1) ∧ w'.cell? ⟨(ade.add (i.toNat * 4)).block, (ade.add (i.toNat * 4)).off + 2, none⟩ = some (.int .i64 x2) ∧ w'.cell? ⟨(ade.add (i.toNat * 4)).block, (ade.add (i.toNat * 4)).off + 3, none⟩ = some (.int .i64 x3))) (ds := []) #[false, false, false, false, false, false, false, false, false, false, false, false, false, false, false, false, false, false, false] (by kernel_rfl) rfl rfl ⟨hG0.out, hG3.out, hZ0.out, hZ1.out, hZ2.out, hZ3.out⟩ (fun hHeld => ?_)
        have HB2 := Aside0.mk (below_drew HB1.out)
        generalize W1.drew = W2 at hHeld HB2 ⊢
        clear HB1 hG0 hG3 hZ0 hZ1 hZ2 hZ3
        refine pure_ (i := 0) (N := some 29) (v := ?_) (a' := ?_) #[true, false, false, false, false, false, false, false, false, false, false, false, false, false, false, false, false, false, false] rfl rfl (by kernel_rfl) (fun _ _ _ h => h) (Or.inl ⟨by rfl, ?_⟩) ?_ ?_
        rotate_left
        · (intro w'; go_simp; with_reducible rfl)
        rotate_left
        · (simp only [Act.put, List.setIfInBounds_toArray, List.set_cons_zero, List.set_cons_succ, i64_w, i32_w]; rfl)
        refine pure_ (i := 1) (N := some 30) (v := ?_) (a' := ?_) #[true, true, false, false, false, false, false, false, false, false, false, false, false, false, false, false, false, false, false] rfl rfl (by kernel_rfl) (fun _ _ _ h => h) (Or.inl ⟨by rfl, ?_⟩) ?_ ?_
        rotate_left
        · (intro w'; go_simp; with_reducible rfl)
        rotate_left
        · (simp only [Act.put, List.setIfInBounds_toArray, List.set_cons_zero, List.set_cons_succ, i64_w, i32_w]; rfl)
        refine pure_ (i := 2) (N := some 31) (v := ?_) (a' := ?_) #[true, true, true, false, false, false, false, false, false, false, false, false, false, false, false, false, false, false, false] rfl rfl (by kernel_rfl) (fun _ _ _ h => h) (Or.inl ⟨by rfl, ?_⟩) ?_ ?_
        rotate_left
        · (intro w'; go_simp; with_reducible rfl)
        rotate_left
        · (simp only [Act.put, List.setIfInBounds_toArray, List.set_cons_zero, List.set_cons_succ, i64_w, i32_w]; rfl)
        refine pure_ (i := 3) (N := some 32) (v := ?_) (a' := ?_) #[true, true, true, true, false, false, false, false, false, false, false, false, false, false, false, false, false, false, false] rfl rfl (by kernel_rfl) (fun _ _ _ h => h) (Or.inl ⟨by rfl, ?_⟩) ?_ ?_
        rotate_left
        · (intro w'; go_simp; with_reducible rfl)
        rotate_left
        · (simp only [Act.put, List.setIfInBounds_toArray, List.set_cons_zero, List.set_cons_succ, i64_w, i32_w]; rfl)
        refine take_ (i := 4) (N := some 33) (v := ?_) (a' := ?_) #[true, true, true, true, true, false, false, false, false, false, false, false, false, false, false, false, false, false, false] rfl rfl (by kernel_rfl) (fun _ _ _ h => h) (Or.inl ⟨by rfl, ?_⟩) (by assumption) ?_ ?_
        rotate_left
        · (intro w' hSw; (try dsimp only at hSw); go_split_ands; go_simp; with_reducible rfl)
        rotate_left
        · (simp only [Act.put, List.setIfInBounds_toArray, List.set_cons_zero, List.set_cons_succ, i64_w, i32_w]; rfl)
        refine pure_ (i := 5) (N := some 34) (v := ?_) (a' := ?_) #[true, true, true, true, true, true, false, false, false, false, false, false, false, false, false, false, false, false, false] rfl rfl (by kernel_rfl) (fun _ _ _ h => h) (Or.inl ⟨by rfl, ?_⟩) ?_ ?_
        rotate_left
        · (intro w'; go_simp; with_reducible rfl)
        rotate_left
        · (simp only [Act.put, List.setIfInBounds_toArray, List.set_cons_zero, List.set_cons_succ, i64_w, i32_w]; rfl)
        refine pure_ (i := 6) (N := some 35) (v := ?_) (a' := ?_) #[true, true, true, true, true, true, true, false, false, false, false, false, false, false, false, false, false, false, false] rfl rfl (by kernel_rfl) (fun _ _ _ h => h) (Or.inl ⟨by rfl, ?_⟩) ?_ ?_
        rotate_left
        · (intro w'; go_simp; with_reducible rfl)
        rotate_left
        · (simp only [Act.put, List.setIfInBounds_toArray, List.set_cons_zero, List.set_cons_succ, i64_w, i32_w]; rfl)
        refine take_ (i := 7) (N := some 36) (v := ?_) (a' := ?_) #[true, true, true, true, true, true, true, true, false, false, false, false, false, false, false, false, false, false, false] rfl rfl (by kernel_rfl) (fun _ _ _ h => h) (Or.inl ⟨by rfl, ?_⟩) (by assumption) ?_ ?_
        rotate_left
        · (intro w' hSw; (try dsimp only at hSw); go_split_ands; go_simp; with_reducible rfl)
        rotate_left
        · (simp only [Act.put, List.setIfInBounds_toArray, List.set_cons_zero, List.set_cons_succ, i64_w, i32_w]; rfl)
        refine pure_ (i := 8) (N := some 37) (v := ?_) (a' := ?_) #[true, true, true, true, true, true, true, true, true, false, false, false, false, false, false, false, false, false, false] rfl rfl (by kernel_rfl) (fun _ _ _ h => h) (Or.inl ⟨by rfl, ?_⟩) ?_ ?_
        rotate_left
        · (intro w'; go_simp; with_reducible rfl)
        rotate_left
        · (simp only [Act.put, List.setIfInBounds_toArray, List.set_cons_zero, List.set_cons_succ, i64_w, i32_w]; rfl)
        refine pure_ (i := 9) (N := some 38) (v := ?_) (a' := ?_) #[true, true, true, true, true, true, true, true, true, true, false, false, false, false, false, false, false, false, false] rfl rfl (by kernel_rfl) (fun _ _ _ h => h) (Or.inl ⟨by rfl, ?_⟩) ?_ ?_
        rotate_left
        · (intro w'; go_simp; with_reducible rfl)
        rotate_left
        · (simp only [Act.put, List.setIfInBounds_toArray, List.set_cons_zero, List.set_cons_succ, i64_w, i32_w]; rfl)
        refine pure_ (i := 10) (N := some 39) (v := ?_) (a' := ?_) #[true, true, true, true, true, true, true, true, true, true, true, false, false, false, false, false, false, false, false] rfl rfl (by kernel_rfl) (fun _ _ _ h => h) (Or.inl ⟨by rfl, ?_⟩) ?_ ?_
        rotate_left
        · (intro w'; go_simp; with_reducible rfl)
        rotate_left
        · (simp only [Act.put, List.setIfInBounds_toArray, List.set_cons_zero, List.set_cons_succ, i64_w, i32_w]; rfl)
        refine pure_ (i := 11) (N := some 40) (v := ?_) (a' := ?_) #[true, true, true, true, true, true, true, true, true, true, true, true, false, false, false, false, false, false, false] rfl rfl (by kernel_rfl) (fun _ _ _ h => h) (Or.inl ⟨by rfl, ?_⟩) ?_ ?_
        rotate_left
        · (intro w'; go_simp; with_reducible rfl)
        rotate_left
        · (simp only [Act.put, List.setIfInBounds_toArray, List.set_cons_zero, List.set_cons_succ, i64_w, i32_w]; rfl)
        refine take_ (i := 12) (N := some 41) (v := ?_) (a' := ?_) #[true, true, true, true, true, true, true, true, true, true, true, true, true, false, false, false, false, false, false] rfl rfl (by kernel_rfl) (fun _ _ _ h => h) (Or.inl ⟨by rfl, ?_⟩) (by assumption) ?_ ?_
        rotate_left
        · (intro w' hSw; (try dsimp only at hSw); go_split_ands; go_simp; with_reducible rfl)
        rotate_left
        · (simp only [Act.put, List.setIfInBounds_toArray, List.set_cons_zero, List.set_cons_succ, i64_w, i32_w]; rfl)
        refine pure_ (i := 13) (N := some 42) (v := ?_) (a' := ?_) #[true, true, true, true, true, true, true, true, true, true, true, true, true, true, false, false, false, false, false] rfl rfl (by kernel_rfl) (fun _ _ _ h => h) (Or.inl ⟨by rfl, ?_⟩) ?_ ?_
        rotate_left
        · (intro w'; go_simp; with_reducible rfl)
        rotate_left
        · (simp only [Act.put, List.setIfInBounds_toArray, List.set_cons_zero, List.set_cons_succ, i64_w, i32_w]; rfl)
        refine pure_ (i := 14) (N := some 43) (v := ?_) (a' := ?_) #[true, true, true, true, true, true, true, true, true, true, true, true, true, true, true, false, false, false, false] rfl rfl (by kernel_rfl) (fun _ _ _ h => h) (Or.inl ⟨by rfl, ?_⟩) ?_ ?_
        rotate_left
        · (intro w'; go_simp; with_reducible rfl)
        rotate_left
        · (simp only [Act.put, List.setIfInBounds_toArray, List.set_cons_zero, List.set_cons_succ, i64_w, i32_w]; rfl)
        refine pure_ (i := 15) (N := some 44) (v := ?_) (a' := ?_) #[true, true, true, true, true, true, true, true, true, true, true, true, true, true, true, true, false, false, false] rfl rfl (by kernel_rfl) (fun _ _ _ h => h) (Or.inl ⟨by rfl, ?_⟩) ?_ ?_
        rotate_left
        · (intro w'; go_simp; with_reducible rfl)
        rotate_left
        · (simp only [Act.put, List.setIfInBounds_toArray, List.set_cons_zero, List.set_cons_succ, i64_w, i32_w]; rfl)
        refine one_ (i := 16) (N := some 6) #[true, true, true, true, true, true, true, true, true, true, true, true, true, true, true, true, true, false, false] rfl rfl (by kernel_rfl) (by decide) (fun K hK => ?_)
        refine value_ (v := .pointer (some ⟨W2.heap.size, 0, none⟩)) (w1 := W2.alloc (.cells #[.int .i64 0, .int .i64 0, .int .i64 0, .int .i64 0] 47)) (by rfl) rfl (by go_simp) ?_
        have e3 : Below W2.heap.size W2 (W2.alloc (.cells #[.int .i64 0, .int .i64 0, .int .i64 0, .int .i64 0] 47)) := below_alloc (Below.refl _ _) _
        have H6 := Aside0.mk (heap_alloc_new W2 (.cells #[.int .i64 0, .int .i64 0, .int .i64 0, .int .i64 0] 47))
        have HB3 := Aside0.mk (below_then HB2.out HB2.out.size e3)
        have hh := hHeld
        obtain ⟨k0, k1, k2, k3, k4, k5⟩ := hh
        refine hK.out _ _ ⟨pw_cell_below e3 k0, pw_cell_below e3 k1, pw_cell_below e3 k2, pw_cell_below e3 k3, pw_cell_below e3 k4, pw_cell_below e3 k5⟩ (fun hHeld => ?_)
        clear hK K
        refine norm_ (a' := ?_) ?_ ?_
        rotate_left
        · (simp only [Act.put, List.setIfInBounds_toArray, List.set_cons_zero, List.set_cons_succ, i64_w, i32_w]; rfl)
        clear k0 k1 k2 k3 k4 k5
        have hg6 := HB2.out.size
        obtain ⟨g6, hg6e⟩ : ∃ g6, W2.heap.size = g6 := ⟨_, rfl⟩
        rw [hg6e] at H6 hg6 ⊢
        generalize W2.alloc (.cells #[.int .i64 0, .int .i64 0, .int .i64 0, .int .i64 0] 47) = W3 at H6 HB3 hHeld ⊢
        clear HB2 e3 hg6e
        refine one_ (i := 17) (N := none) #[true, true, true, true, true, true, true, true, true, true, true, true, true, true, true, true, true, true, false] rfl rfl (by kernel_rfl) (by decide) (fun K hK => ?_)
        refine skip_ (by rfl) rfl (run_store_own (g := g6) (j := 0) 47 (.tmp 6) (.tmp 36) rfl _ [.int .i64 x0, .int .i64 x1, .int .i64 x2, .int .i64 x3] rfl rfl rfl infoS47 (by simp [Value.oneCell']) H6.out (by simp)) ?_
        obtain ⟨hgw, cur, hcur, hcl⟩ := set_own (j := 0) [.int .i64 x0, .int .i64 x1, .int .i64 x2, .int .i64 x3] H6.out (by simp)
        obtain rfl : cur = #[.int .i64 x0, .int .i64 x1, .int .i64 x2, .int .i64 x3] := by
          rw [← Array.toList_inj]
          simpa using hcl
        have HB4 := Aside0.mk (HB3.out.grown hgw HB3.out.size (fun k hk => by cases hk; exact hg6))
        have HCUR := Aside0.mk hcur
        generalize W3.setCells g6 0 _ = W4 at HB4 HCUR ⊢
        clear hgw hcur hcl hHeld HB3 H6
        refine hK.out _ _ ⟨pw_cell_below HB4.out HW0.out, pw_cell_below HB4.out HW3.out, pw_cell_below HB4.out HY0.out, pw_cell_below HB4.out HY1.out, pw_cell_below HB4.out HY2.out, pw_cell_below HB4.out HY3.out⟩ (fun hHeld => ?_)
        clear hK K
        refine pure_ (i := 18) (N := some 7) (v := ?_) (a' := ?_) #[true, true, true, true, true, true, true, true, true, true, true, true, true, true, true, true, true, true, true] rfl rfl (by kernel_rfl) (fun _ _ _ h => h) (Or.inl ⟨by rfl, ?_⟩) ?_ ?_
        rotate_left
        · (intro w'; go_simp; with_reducible rfl)
        rotate_left
        · (simp only [Act.put, List.setIfInBounds_toArray, List.set_cons_zero, List.set_cons_succ, i64_w, i32_w]; rfl)
        refine done_ (by kernel_rfl) ?_
        have hz0 : W4.cell? ⟨g6, 0, none⟩ = some (.int .i64 x0) := (blk_cell HCUR.out 0).trans rfl
        have hz1 : W4.cell? ⟨g6, 1, none⟩ = some (.int .i64 x1) := (blk_cell HCUR.out 1).trans rfl
        obtain ⟨mid, hmid⟩ : ∃ mid, (D.V.length : Int) + i = mid := ⟨_, rfl⟩
        rw [hmid] at HR ⊢
        have HZ : Aside0 (Kd.R k53 53 (W4.alloc (.cells #[.int .i64 x0, .int .i64 mid, .int .i64 ns, .int .i64 x1, .int .i64 mid, .int .i64 ns] 53)) w.heap.size (fun _ => True) (.slice (some ⟨W4.heap.size, 0, none⟩) 2 2) [⟨x0, mid, ns⟩, ⟨x1, mid, ns⟩]) := ⟨pairR (heap_alloc_new _ _) HB4.out.size⟩
        have HB5 := Aside0.mk (below_alloc HB4.out (.cells #[.int .i64 x0, .int .i64 mid, .int .i64 ns, .int .i64 x1, .int .i64 mid, .int .i64 ns] 53))
        clear hwi
        go_wp2_with fail
        go_ret
        exact ⟨_, rfl, by rw [HR.out]; exact HZ.out, HB5.out⟩
  · have hq : (sh != 255) = true := by simp [h255]
    have hw : wrap64 (sh - 1) = ns := by rw [← hns]; unfold nextS; rw [if_neg h255]
    clear hns h255
    go_enter Try.func37, Try.ntmps37
    go_wp2_with fail
    refine HED.out.mono ?_
    rintro e W1 ⟨rfl, hb1⟩
    have HB1 := Aside0.mk hb1
    have hf0' := pw_cell_below hb1 hf0
    have hf3' := pw_cell_below hb1 hf3
    have hy0' := pw_cell_below hb1 hy0
    have hy1' := pw_cell_below hb1 hy1
    have hy2' := pw_cell_below hb1 hy2
    have hy3' := pw_cell_below hb1 hy3
    have HW0 := Aside0.mk hf0
    have HW3 := Aside0.mk hf3
    have HY0 := Aside0.mk hy0
    have HY1 := Aside0.mk hy1
    have HY2 := Aside0.mk hy2
    have HY3 := Aside0.mk hy3
    clear hb1 hf0 hf3 hy0 hy1 hy2 hy3 hf4 hf5 hf6 hsh HED hq
    cases eb with
    | true =>
      have HR : Aside0 (res = []) := ⟨by
        rw [← HRES.out]
        unfold creasesOf
        rw [HEB.out]
        rfl⟩
      go_wp2_with fail
      go_ret
      exact ⟨_, rfl, by rw [HR.out]; exact Kd.R_nil _ _ _ _ _, HB1.out⟩
    | false =>
      by_cases hlt : ns < 1
      · have HR : Aside0 (res = []) := ⟨by
          rw [← HRES.out]
          unfold creasesOf
          rw [HEB.out, HNS.out, decide_eq_true hlt]
          rfl⟩
        have hd := decide_eq_true hlt
        go_wp2_with fail
        go_ret
        exact ⟨_, rfl, by rw [HR.out]; exact Kd.R_nil _ _ _ _ _, HB1.out⟩
      · have HR : Aside0 (res = [⟨x0, D.V.length + i, ns⟩, ⟨x1, D.V.length + i, ns⟩]) := ⟨by
          rw [← HRES.out]
          unfold creasesOf
          rw [HEB.out, HNS.out, decide_eq_false hlt]
          rfl⟩
        have hd : decide (ns < 1) = false := decide_eq_false hlt
        have hwi : IntKind.i64.wrap ((D.V.length : Int) + i) = D.V.length + i := by rw [i64_w, w64_in _ (by omega) (by omega)]
        have hG0 := Aside0.mk hf0'
        have hG3 := Aside0.mk hf3'
        have hZ0 := Aside0.mk hy0'
        have hZ1 := Aside0.mk hy1'
        have hZ2 := Aside0.mk hy2'
        have hZ3 := Aside0.mk hy3'
        clear hf0' hf3' hy0' hy1' hy2' hy3'
        go_wp2_with fail
        clear hd hlt
        refine start_ (n := 19) (S := (fun w' => w'.cell? ⟨fb, 0, none⟩ = some (.slice D.A0 D.V.length D.c0) ∧ w'.cell? ⟨fb, 3, none⟩ = some (.slice (some ade) D.ES.length D.c3) ∧ w'.cell? (ade.add (i.toNat * 4)) = some (.int .i64 x0) ∧ w'.cell? ⟨(ade.add (i.toNat * 4)).block, (ade.add (i.toNat * 4)).off + 1, none⟩ = some (.int .i64 x1) ∧ w'.cell? ⟨(ade.add (i.toNat * 4)).block, (ade.add (i.toNat * 4)).off + 2, none⟩ = some (.int .i64 x2) ∧ w'.cell? ⟨(ade.add (i.toNat * 4)).block, (ade.add (i.toNat * 4)).off + 3, none⟩ = some (.int .i64 x3))) (ds := []) #[false, false, false, false, false, false, false, false, false, false, false, false, false, false, false, false, false, false, false] (by kernel_rfl) rfl rfl ⟨hG0.out, hG3.out, hZ0.out, hZ1.out, hZ2.out, hZ3.out⟩ (fun hHeld => ?_)
        have HB2 := Aside0.mk (below_drew HB1.out)
        generalize W1.drew = W2 at hHeld HB2 ⊢
        clear HB1 hG0 hG3 hZ0 hZ1 hZ2 hZ3
        refine pure_ (i := 0) (N := some 29) (v := ?_) (a' := ?_) #[true, false, false, false, false, false, false, false, false, false, false, false, false, false, false, false, false, false, false] rfl rfl (by kernel_rfl) (fun _ _ _ h => h) (Or.inl ⟨by rfl, ?_⟩) ?_ ?_
        rotate_left
        · (intro w'; go_simp; with_reducible rfl)
        rotate_left
        · (simp only [Act.put, List.setIfInBounds_toArray, List.set_cons_zero, List.set_cons_succ, i64_w, i32_w]; rfl)
        refine pure_ (i := 1) (N := some 30) (v := ?_) (a' := ?_) #[true, true, false, false, false, false, false, false, false, false, false, false, false, false, false, false, false, false, false] rfl rfl (by kernel_rfl) (fun _ _ _ h => h) (Or.inl ⟨by rfl, ?_⟩) ?_ ?_
        rotate_left
        · (intro w'; go_simp; with_reducible rfl)
        rotate_left
        · (simp only [Act.put, List.setIfInBounds_toArray, List.set_cons_zero, List.set_cons_succ, i64_w, i32_w]; rfl)
        refine pure_ (i := 2) (N := some 31) (v := ?_) (a' := ?_) #[true, true, true, false, false, false, false, false, false, false, false, false, false, false, false, false, false, false, false] rfl rfl (by kernel_rfl) (fun _ _ _ h => h) (Or.inl ⟨by rfl, ?_⟩) ?_ ?_
        rotate_left
        · (intro w'; go_simp; with_reducible rfl)
        rotate_left
        · (simp only [Act.put, List.setIfInBounds_toArray, List.set_cons_zero, List.set_cons_succ, i64_w, i32_w]; rfl)
        refine pure_ (i := 3) (N := some 32) (v := ?_) (a' := ?_) #[true, true, true, true, false, false, false, false, false, false, false, false, false, false, false, false, false, false, false] rfl rfl (by kernel_rfl) (fun _ _ _ h => h) (Or.inl ⟨by rfl, ?_⟩) ?_ ?_
        rotate_left
        · (intro w'; go_simp; with_reducible rfl)
        rotate_left
        · (simp only [Act.put, List.setIfInBounds_toArray, List.set_cons_zero, List.set_cons_succ, i64_w, i32_w]; rfl)
        refine take_ (i := 4) (N := some 33) (v := ?_) (a' := ?_) #[true, true, true, true, true, false, false, false, false, false, false, false, false, false, false, false, false, false, false] rfl rfl (by kernel_rfl) (fun _ _ _ h => h) (Or.inl ⟨by rfl, ?_⟩) (by assumption) ?_ ?_
        rotate_left
        · (intro w' hSw; (try dsimp only at hSw); go_split_ands; go_simp; with_reducible rfl)
        rotate_left
        · (simp only [Act.put, List.setIfInBounds_toArray, List.set_cons_zero, List.set_cons_succ, i64_w, i32_w]; rfl)
        refine pure_ (i := 5) (N := some 34) (v := ?_) (a' := ?_) #[true, true, true, true, true, true, false, false, false, false, false, false, false, false, false, false, false, false, false] rfl rfl (by kernel_rfl) (fun _ _ _ h => h) (Or.inl ⟨by rfl, ?_⟩) ?_ ?_
        rotate_left
        · (intro w'; go_simp; with_reducible rfl)
        rotate_left
        · (simp only [Act.put, List.setIfInBounds_toArray, List.set_cons_zero, List.set_cons_succ, i64_w, i32_w]; rfl)
        refine pure_ (i := 6) (N := some 35) (v := ?_) (a' := ?_) #[true, true, true, true, true, true, true, false, false, false, false, false, false, false, false, false, false, false, false] rfl rfl (by kernel_rfl) (fun _ _ _ h => h) (Or.inl ⟨by rfl, ?_⟩) ?_ ?_
        rotate_left
        · (intro w'; go_simp; with_reducible rfl)
        rotate_left
        · (simp only [Act.put, List.setIfInBounds_toArray, List.set_cons_zero, List.set_cons_succ, i64_w, i32_w]; rfl)
        refine take_ (i := 7) (N := some 36) (v := ?_) (a' := ?_) #[true, true, true, true, true, true, true, true, false, false, false, false, false, false, false, false, false, false, false] rfl rfl (by kernel_rfl) (fun _ _ _ h => h) (Or.inl ⟨by rfl, ?_⟩) (by assumption) ?_ ?_
        rotate_left
        · (intro w' hSw; (try dsimp only at hSw); go_split_ands; go_simp; with_reducible rfl)
        rotate_left
        · (simp only [Act.put, List.setIfInBounds_toArray, List.set_cons_zero, List.set_cons_succ, i64_w, i32_w]; rfl)
        refine pure_ (i := 8) (N := some 37) (v := ?_) (a' := ?_) #[true, true, true, true, true, true, true, true, true, false, false, false, false, false, false, false, false, false, false] rfl rfl (by kernel_rfl) (fun _ _ _ h => h) (Or.inl ⟨by rfl, ?_⟩) ?_ ?_
        rotate_left
        · (intro w'; go_simp; with_reducible rfl)
        rotate_left
        · (simp only [Act.put, List.setIfInBounds_toArray, List.set_cons_zero, List.set_cons_succ, i64_w, i32_w]; rfl)
        refine pure_ (i := 9) (N := some 38) (v := ?_) (a' := ?_) #[true, true, true, true, true, true, true, true, true, true, false, false, false, false, false, false, false, false, false] rfl rfl (by kernel_rfl) (fun _ _ _ h => h) (Or.inl ⟨by rfl, ?_⟩) ?_ ?_
        rotate_left
        · (intro w'; go_simp; with_reducible rfl)
        rotate_left
        · (simp only [Act.put, List.setIfInBounds_toArray, List.set_cons_zero, List.set_cons_succ, i64_w, i32_w]; rfl)
        refine pure_ (i := 10) (N := some 39) (v := ?_) (a' := ?_) #[true, true, true, true, true, true, true, true, true, true, true, false, false, false, false, false, false, false, false] rfl rfl (by kernel_rfl) (fun _ _ _ h => h) (Or.inl ⟨by rfl, ?_⟩) ?_ ?_
        rotate_left
        · (intro w'; go_simp; with_reducible rfl)
        rotate_left
        · (simp only [Act.put, List.setIfInBounds_toArray, List.set_cons_zero, List.set_cons_succ, i64_w, i32_w]; rfl)
        refine pure_ (i := 11) (N := some 40) (v := ?_) (a' := ?_) #[true, true, true, true, true, true, true, true, true, true, true, true, false, false, false, false, false, false, false] rfl rfl (by kernel_rfl) (fun _ _ _ h => h) (Or.inl ⟨by rfl, ?_⟩) ?_ ?_
        rotate_left
        · (intro w'; go_simp; with_reducible rfl)
        rotate_left
        · (simp only [Act.put, List.setIfInBounds_toArray, List.set_cons_zero, List.set_cons_succ, i64_w, i32_w]; rfl)
        refine take_ (i := 12) (N := some 41) (v := ?_) (a' := ?_) #[true, true, true, true, true, true, true, true, true, true, true, true, true, false, false, false, false, false, false] rfl rfl (by kernel_rfl) (fun _ _ _ h => h) (Or.inl ⟨by rfl, ?_⟩) (by assumption) ?_ ?_
        rotate_left
        · (intro w' hSw; (try dsimp only at hSw); go_split_ands; go_simp; with_reducible rfl)
        rotate_left
        · (simp only [Act.put, List.setIfInBounds_toArray, List.set_cons_zero, List.set_cons_succ, i64_w, i32_w]; rfl)
        refine pure_ (i := 13) (N := some 42) (v := ?_) (a' := ?_) #[true, true, true, true, true, true, true, true, true, true, true, true, true, true, false, false, false, false, false] rfl rfl (by kernel_rfl) (fun _ _ _ h => h) (Or.inl ⟨by rfl, ?_⟩) ?_ ?_
        rotate_left
        · (intro w'; go_simp; with_reducible rfl)
        rotate_left
        · (simp only [Act.put, List.setIfInBounds_toArray, List.set_cons_zero, List.set_cons_succ, i64_w, i32_w]; rfl)
        refine pure_ (i := 14) (N := some 43) (v := ?_) (a' := ?_) #[true, true, true, true, true, true, true, true, true, true, true, true, true, true, true, false, false, false, false] rfl rfl (by kernel_rfl) (fun _ _ _ h => h) (Or.inl ⟨by rfl, ?_⟩) ?_ ?_
        rotate_left
        · (intro w'; go_simp; with_reducible rfl)
        rotate_left
        · (simp only [Act.put, List.setIfInBounds_toArray, List.set_cons_zero, List.set_cons_succ, i64_w, i32_w]; rfl)
        refine pure_ (i := 15) (N := some 44) (v := ?_) (a' := ?_) #[true, true, true, true, true, true, true, true, true, true, true, true, true, true, true, true, false, false, false] rfl rfl (by kernel_rfl) (fun _ _ _ h => h) (Or.inl ⟨by rfl, ?_⟩) ?_ ?_
        rotate_left
        · (intro w'; go_simp; with_reducible rfl)
        rotate_left
        · (simp only [Act.put, List.setIfInBounds_toArray, List.set_cons_zero, List.set_cons_succ, i64_w, i32_w]; rfl)
        refine one_ (i := 16) (N := some 6) #[true, true, true, true, true, true, true, true, true, true, true, true, true, true, true, true, true, false, false] rfl rfl (by kernel_rfl) (by decide) (fun K hK => ?_)
        refine value_ (v := .pointer (some ⟨W2.heap.size, 0, none⟩)) (w1 := W2.alloc (.cells #[.int .i64 0, .int .i64 0, .int .i64 0, .int .i64 0] 47)) (by rfl) rfl (by go_simp) ?_
        have e3 : Below W2.heap.size W2 (W2.alloc (.cells #[.int .i64 0, .int .i64 0, .int .i64 0, .int .i64 0] 47)) := below_alloc (Below.refl _ _) _
        have H6 := Aside0.mk (heap_alloc_new W2 (.cells #[.int .i64 0, .int .i64 0, .int .i64 0, .int .i64 0] 47))
        have HB3 := Aside0.mk (below_then HB2.out HB2.out.size e3)
        have hh := hHeld
        obtain ⟨k0, k1, k2, k3, k4, k5⟩ := hh
        refine hK.out _ _ ⟨pw_cell_below e3 k0, pw_cell_below e3 k1, pw_cell_below e3 k2, pw_cell_below e3 k3, pw_cell_below e3 k4, pw_cell_below e3 k5⟩ (fun hHeld => ?_)
        clear hK K
        refine norm_ (a' := ?_) ?_ ?_
        rotate_left
        · (simp only [Act.put, List.setIfInBounds_toArray, List.set_cons_zero, List.set_cons_succ, i64_w, i32_w]; rfl)
        clear k0 k1 k2 k3 k4 k5
        have hg6 := HB2.out.size
        obtain ⟨g6, hg6e⟩ : ∃ g6, W2.heap.size = g6 := ⟨_, rfl⟩
        rw [hg6e] at H6 hg6 ⊢
        generalize W2.alloc (.cells #[.int .i64 0, .int .i64 0, .int .i64 0, .int .i64 0] 47) = W3 at H6 HB3 hHeld ⊢
        clear HB2 e3 hg6e
        refine one_ (i := 17) (N := none) #[true, true, true, true, true, true, true, true, true, true, true, true, true, true, true, true, true, true, false] rfl rfl (by kernel_rfl) (by decide) (fun K hK => ?_)
        refine skip_ (by rfl) rfl (run_store_own (g := g6) (j := 0) 47 (.tmp 6) (.tmp 36) rfl _ [.int .i64 x0, .int .i64 x1, .int .i64 x2, .int .i64 x3] rfl rfl rfl infoS47 (by simp [Value.oneCell']) H6.out (by simp)) ?_
        obtain ⟨hgw, cur, hcur, hcl⟩ := set_own (j := 0) [.int .i64 x0, .int .i64 x1, .int .i64 x2, .int .i64 x3] H6.out (by simp)
        obtain rfl : cur = #[.int .i64 x0, .int .i64 x1, .int .i64 x2, .int .i64 x3] := by
          rw [← Array.toList_inj]
          simpa using hcl
        have HB4 := Aside0.mk (HB3.out.grown hgw HB3.out.size (fun k hk => by cases hk; exact hg6))
        have HCUR := Aside0.mk hcur
        generalize W3.setCells g6 0 _ = W4 at HB4 HCUR ⊢
        clear hgw hcur hcl hHeld HB3 H6
        refine hK.out _ _ ⟨pw_cell_below HB4.out HW0.out, pw_cell_below HB4.out HW3.out, pw_cell_below HB4.out HY0.out, pw_cell_below HB4.out HY1.out, pw_cell_below HB4.out HY2.out, pw_cell_below HB4.out HY3.out⟩ (fun hHeld => ?_)
        clear hK K
        refine pure_ (i := 18) (N := some 7) (v := ?_) (a' := ?_) #[true, true, true, true, true, true, true, true, true, true, true, true, true, true, true, true, true, true, true] rfl rfl (by kernel_rfl) (fun _ _ _ h => h) (Or.inl ⟨by rfl, ?_⟩) ?_ ?_
        rotate_left
        · (intro w'; go_simp; with_reducible rfl)
        rotate_left
        · (simp only [Act.put, List.setIfInBounds_toArray, List.set_cons_zero, List.set_cons_succ, i64_w, i32_w]; rfl)
        refine done_ (by kernel_rfl) ?_
        have hz0 : W4.cell? ⟨g6, 0, none⟩ = some (.int .i64 x0) := (blk_cell HCUR.out 0).trans rfl
        have hz1 : W4.cell? ⟨g6, 1, none⟩ = some (.int .i64 x1) := (blk_cell HCUR.out 1).trans rfl
        obtain ⟨mid, hmid⟩ : ∃ mid, (D.V.length : Int) + i = mid := ⟨_, rfl⟩
        rw [hmid] at HR ⊢
        have HZ : Aside0 (Kd.R k53 53 (W4.alloc (.cells #[.int .i64 x0, .int .i64 mid, .int .i64 ns, .int .i64 x1, .int .i64 mid, .int .i64 ns] 53)) w.heap.size (fun _ => True) (.slice (some ⟨W4.heap.size, 0, none⟩) 2 2) [⟨x0, mid, ns⟩, ⟨x1, mid, ns⟩]) := ⟨pairR (heap_alloc_new _ _) HB4.out.size⟩
        have HB5 := Aside0.mk (below_alloc HB4.out (.cells #[.int .i64 x0, .int .i64 mid, .int .i64 ns, .int .i64 x1, .int .i64 mid, .int .i64 ns] 53))
        clear hwi
        go_wp2_with fail
        go_ret
        exact ⟨_, rfl, by rw [HR.out]; exact HZ.out, HB5.out⟩
end Go.Proofs.Ytnjdjfengoaleaa.MSub
