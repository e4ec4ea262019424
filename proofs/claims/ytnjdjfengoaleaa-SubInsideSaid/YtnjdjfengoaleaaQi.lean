/- Texts of this claim, merged by a program of this session; what the claim does not use is left out. -/
import Derived.Test.YtnjdjfengoaleaaQb
import Derived.Test.YtnjdjfengoaleaaQc
import Derived.Test.YtnjdjfengoaleaaQd
import Derived.Deep.RegionHeld3
import Derived.Test.YtnjdjfengoaleaaQg
import Derived.Test.YtnjdjfengoaleaaQh
namespace Go.Proofs.Ytnjdjfengoaleaa.MSub
open Go.RowKit Go.Proofs.YtnjdjfengoaleaaW.PrintWords Go.Proofs.YtnjdjfengoaleaaW.PrintLast Go.Proofs.YtnjdjfengoaleaaW.PrintMore
attribute [local go_sem] max2_int min2_int max_two min_two max_three min_three max_four min_four   -- for this text's walks alone
set_option linter.unusedVariables false
set_option linter.unusedSimpArgs false
def topo_Find_1.f (k : Nat) (a0_0 : Int) (a0_1 : Int) (a0_2 : Int) (a0_3 : Int) (a1_0 : Int) (a1_1 : Int) : Option (Int) := (cmp_Compare_int.f a0_0 a1_0).bind fun t159 => ((cmp_Compare_int.f a0_1 a1_1).bind fun t160 => ((cmp_Or_int.f k (([t159, t160] : List Int))).bind fun t164 => (some t164)))
def topo_Find_1.T1 : Bool × List (List Nat × List Nat) := (true, [([], []), ([0], [0]), ([], []), ([2], [2]), ([1, 3], [1, 3]), ([], []), ([5], [5]), ([], []), ([7], [7]), ([6, 8, 4], [6, 8]), ([4, 9], [4, 9]), ([10, 9], [10]), ([11, 11, 0, 1, 2, 3, 4, 5, 6, 7, 8, 9, 10, 11], [11])])
def topo_Find_1.B1 : List Nat := [0, 1, 0, 4, 15, 0, 32, 0, 128, 511, 1023, 2047, 4095]
theorem topo_Find_1.tab1 : rtab .any (opsOf Try.f65 1) = topo_Find_1.T1 := by kernel_rfl
theorem topo_Find_1.bits1 : waitsOk topo_Find_1.T1.2 topo_Find_1.B1 = true := by kernel_rfl
set_option maxHeartbeats 8000000 in
set_option maxRecDepth 100000 in
theorem topo_Find_1.calls (k : Nat) (a0_0 : Int) (a0_1 : Int) (a0_2 : Int) (a0_3 : Int) (a1_0 : Int) (a1_1 : Int) (r : Int) (w : World) (h : topo_Find_1.f k a0_0 a0_1 a0_2 a0_3 a1_0 a1_1 = some r) :
    Calls Try.prog 65 #[.agg #[.int .i64 a0_0, .int .i64 a0_1, .int .i64 a0_2, .int .i64 a0_3], .agg #[.int .i64 a1_0, .int .i64 a1_1]] w fun e w' => e = .returned (.int .i64 r) ∧ Below w.heap.size w w' := by
  have hu47 := Try.underlying47
  have hu115 := Try.underlying115
  have HB := Aside0.mk (Below.refl w.heap.size w)
  have H : ((cmp_Compare_int.f a0_0 a1_0).bind fun t159 => ((cmp_Compare_int.f a0_1 a1_1).bind fun t160 => ((cmp_Or_int.f k (([t159, t160] : List Int))).bind fun t164 => (some t164)))) = some r := h
  clear h
  replace H := Option.bind_eq_some_iff.mp H
  obtain ⟨t159, A30, H⟩ := H
  replace H : ((cmp_Compare_int.f a0_1 a1_1).bind fun t160 => ((cmp_Or_int.f k (([t159, t160] : List Int))).bind fun t164 => (some t164))) = some r := H
  have A3 := Aside0.mk A30
  clear A30
  replace H := Option.bind_eq_some_iff.mp H
  obtain ⟨t160, A40, H⟩ := H
  replace H : ((cmp_Or_int.f k (([t159, t160] : List Int))).bind fun t164 => (some t164)) = some r := H
  have A4 := Aside0.mk A40
  clear A40
  obtain ⟨y161, hy161⟩ : ∃ y_ : List Int, y_ = (([t159, t160] : List Int)) := ⟨_, rfl⟩
  replace H : ((cmp_Or_int.f k y161).bind fun t164 => (some t164)) = some r := by first | (rw [hy161]; with_reducible exact H) | (have H2_ := (Option.bind_some _ _).symm.trans H; rw [hy161]; with_reducible exact H2_) | (have H2_ := (Option.bind_some _ _).symm.trans H; with_reducible exact H2_) | with_reducible exact H | (rw [hy161]; exact H) | exact H
  have Ny161 := Aside0.mk hy161
  clear hy161
  replace H := Option.bind_eq_some_iff.mp H
  obtain ⟨t164, A50, H⟩ := H
  replace H : (some t164) = some r := H
  have A5 := Aside0.mk A50
  clear A50
  obtain rfl := Option.some.inj H
  go_enter Try.func65, Try.ntmps65
  try go_wp2_with (first | ((with_reducible refine gate_dst (N := 2) rfl ?_); refine box_event ?hg (N := 2) ?hd (cs := #[.int .i64 a0_0, .int .i64 a0_1, .int .i64 a0_2, .int .i64 a0_3]) (t := 47) ?hr ?_; (case hd => rfl); (case hg => rfl); (case hr => first | (go_simp; done) | (go_simp; rfl)); intro gb157 hg w6 hbox hb; have n0_ := Aside0.mk (below_step (by repeat (first | (with_reducible first | exact HB.out | apply below_alloc | apply pw_below_drewN | apply below_drew1) | exact HB.out)) hb); have n1_ := Aside0.mk (hbox); have n2_ := Aside0.mk ((by rw [hg]; exact (below_size (by repeat (first | (with_reducible first | exact HB.out | apply below_alloc | apply pw_below_drewN | apply below_drew1) | exact HB.out))) : w.heap.size ≤ gb157)); have n3_ := Aside0.mk ((by rw [hg]; exact (below_size (by repeat (first | (with_reducible first | exact HB.out | apply below_alloc | apply pw_below_drewN | apply below_drew1) | exact HB.out))) : w.heap.size ≤ gb157)); clear HB; have HB := n0_; have BK157 := n1_; have GW157 := n2_; have GE157 := n3_; clear n0_ n1_ n2_ n3_; clear hb hbox hg) | ((with_reducible refine gate_dst (N := 3) rfl ?_); refine box_event ?hg (N := 3) ?hd (cs := #[.int .i64 a1_0, .int .i64 a1_1]) (t := 115) ?hr ?_; (case hd => rfl); (case hg => rfl); (case hr => first | (go_simp; done) | (go_simp; rfl)); intro gb158 hg w7 hbox hb; have n0_ := Aside0.mk (blk_below (g := gb157) (o := .cells #[.int .i64 a0_0, .int .i64 a0_1, .int .i64 a0_2, .int .i64 a0_3] 47 (0, 0)) (by (with_reducible repeat (first | refine blk_drewN ?_ _ | refine blk_drew ?_ | refine blk_alloc ?_ _)); exact BK157.out) hb); have n1_ := Aside0.mk (below_step (by repeat (first | (with_reducible first | exact HB.out | apply below_alloc | apply pw_below_drewN | apply below_drew1 | refine below_set ?_ GE157.out) | exact HB.out)) hb); have n2_ := Aside0.mk (hbox); have n3_ := Aside0.mk ((by rw [hg]; exact (below_size (by repeat (first | (with_reducible first | exact HB.out | apply below_alloc | apply pw_below_drewN | apply below_drew1 | refine below_set ?_ GE157.out) | exact HB.out))) : w.heap.size ≤ gb158)); have n4_ := Aside0.mk ((by rw [hg]; exact (below_size (by repeat (first | (with_reducible first | exact HB.out | apply below_alloc | apply pw_below_drewN | apply below_drew1 | refine below_set ?_ GE157.out) | exact HB.out))) : w.heap.size ≤ gb158)); have n5_ := Aside0.mk ((by rw [hg]; exact Nat.ne_of_lt (blk_lt (g := gb157) (o := .cells #[.int .i64 a0_0, .int .i64 a0_1, .int .i64 a0_2, .int .i64 a0_3] 47 (0, 0)) (by (with_reducible repeat (first | refine blk_drewN ?_ _ | refine blk_drew ?_ | refine blk_alloc ?_ _)); exact BK157.out)) : gb157 ≠ gb158)); have n6_ := Aside0.mk ((by rw [hg]; exact Nat.ne_of_gt (blk_lt (g := gb157) (o := .cells #[.int .i64 a0_0, .int .i64 a0_1, .int .i64 a0_2, .int .i64 a0_3] 47 (0, 0)) (by (with_reducible repeat (first | refine blk_drewN ?_ _ | refine blk_drew ?_ | refine blk_alloc ?_ _)); exact BK157.out)) : gb158 ≠ gb157)); clear BK157; clear HB; have BK157 := n0_; have HB := n1_; have BK158 := n2_; have GW158 := n3_; have GE158 := n4_; have NB157_158 := n5_; have NB158_157 := n6_; clear n0_ n1_ n2_ n3_ n4_ n5_ n6_; clear hb hbox hg))
  have n0_ := Aside0.mk (blk_drew BK157.out)
  have n1_ := Aside0.mk (blk_drew BK158.out)
  have n2_ := Aside0.mk (below_drew1 HB.out)
  clear BK157
  clear BK158
  clear HB
  have BK157 := n0_
  have BK158 := n1_
  have HB := n2_
  clear n0_ n1_ n2_
  refine start_ (n := 13) (S := fun w' => w'.cell? ⟨gb157, 0, none⟩ = some (.int .i64 a0_0) ∧ w'.cell? ⟨gb157, 1, none⟩ = some (.int .i64 a0_1) ∧ w'.cell? ⟨gb157, 2, none⟩ = some (.int .i64 a0_2) ∧ w'.cell? ⟨gb157, 3, none⟩ = some (.int .i64 a0_3) ∧ w'.cell? ⟨gb158, 0, none⟩ = some (.int .i64 a1_0) ∧ w'.cell? ⟨gb158, 1, none⟩ = some (.int .i64 a1_1)) (ds := []) #[false, false, false, false, false, false, false, false, false, false, false, false, false] (by kernel_rfl) rfl rfl ⟨(blk_cell BK157.out 0).trans rfl, (blk_cell BK157.out 1).trans rfl, (blk_cell BK157.out 2).trans rfl, (blk_cell BK157.out 3).trans rfl, (blk_cell BK158.out 0).trans rfl, (blk_cell BK158.out 1).trans rfl⟩ (fun hHeld => ?_); refine with_tabW topo_Find_1.tab1 topo_Find_1.bits1 (fun HT_ HW_ => ?_)
  generalize w7.drew = w8 at BK157 BK158 HB hHeld ⊢
  refine pure_ (i := 0) (N := some 5) (v := ?_) (a' := ?_) #[true, false, false, false, false, false, false, false, false, false, false, false, false] rfl rfl (any_of HT_.out (by kernel_rfl)) (fun _ _ _ h => h) (Or.inl ⟨by rfl, ?_⟩) ?_ ?_
  rotate_left
  · intro w'
    go_simp
    with_reducible rfl
  rotate_left
  · simp only [Act.put, List.setIfInBounds_toArray, List.set_cons_zero, List.set_cons_succ, i64_w, i32_w]
    rfl
  refine pure_ (i := 2) (N := some 7) (v := ?_) (a' := ?_) #[true, false, true, false, false, false, false, false, false, false, false, false, false] rfl rfl (any_of HT_.out (by kernel_rfl)) (fun _ _ _ h => h) (Or.inl ⟨by rfl, ?_⟩) ?_ ?_
  rotate_left
  · intro w'
    go_simp
    with_reducible rfl
  rotate_left
  · simp only [Act.put, List.setIfInBounds_toArray, List.set_cons_zero, List.set_cons_succ, i64_w, i32_w]
    rfl
  refine pure_ (i := 5) (N := some 10) (v := ?_) (a' := ?_) #[true, false, true, false, false, true, false, false, false, false, false, false, false] rfl rfl (any_of HT_.out (by kernel_rfl)) (fun _ _ _ h => h) (Or.inl ⟨by rfl, ?_⟩) ?_ ?_
  rotate_left
  · intro w'
    go_simp
    with_reducible rfl
  rotate_left
  · simp only [Act.put, List.setIfInBounds_toArray, List.set_cons_zero, List.set_cons_succ, i64_w, i32_w]
    rfl
  refine pure_ (i := 7) (N := some 12) (v := ?_) (a' := ?_) #[true, false, true, false, false, true, false, true, false, false, false, false, false] rfl rfl (any_of HT_.out (by kernel_rfl)) (fun _ _ _ h => h) (Or.inl ⟨by rfl, ?_⟩) ?_ ?_
  rotate_left
  · intro w'
    go_simp
    with_reducible rfl
  rotate_left
  · simp only [Act.put, List.setIfInBounds_toArray, List.set_cons_zero, List.set_cons_succ, i64_w, i32_w]
    rfl
  refine take_ (i := 1) (N := some 6) (v := ?_) (a' := ?_) #[true, true, true, false, false, true, false, true, false, false, false, false, false] rfl rfl (take_ofW HT_.out HW_.out (by kernel_rfl)) (fun _ _ _ h => h) (Or.inl ⟨by rfl, ?_⟩) hHeld ?_ ?_
  rotate_left
  · rintro w' ⟨s0, s1, s2, s3, s4, s5⟩
    go_simp
    with_reducible rfl
  rotate_left
  · simp only [Act.put, List.setIfInBounds_toArray, List.set_cons_zero, List.set_cons_succ, i64_w, i32_w]
    rfl
  refine take_ (i := 3) (N := some 8) (v := ?_) (a' := ?_) #[true, true, true, true, false, true, false, true, false, false, false, false, false] rfl rfl (take_ofW HT_.out HW_.out (by kernel_rfl)) (fun _ _ _ h => h) (Or.inl ⟨by rfl, ?_⟩) hHeld ?_ ?_
  rotate_left
  · rintro w' ⟨s0, s1, s2, s3, s4, s5⟩
    go_simp
    with_reducible rfl
  rotate_left
  · simp only [Act.put, List.setIfInBounds_toArray, List.set_cons_zero, List.set_cons_succ, i64_w, i32_w]
    rfl
  refine take_ (i := 6) (N := some 11) (v := ?_) (a' := ?_) #[true, true, true, true, false, true, true, true, false, false, false, false, false] rfl rfl (take_ofW HT_.out HW_.out (by kernel_rfl)) (fun _ _ _ h => h) (Or.inl ⟨by rfl, ?_⟩) hHeld ?_ ?_
  rotate_left
  · rintro w' ⟨s0, s1, s2, s3, s4, s5⟩
    go_simp
    with_reducible rfl
  rotate_left
  · simp only [Act.put, List.setIfInBounds_toArray, List.set_cons_zero, List.set_cons_succ, i64_w, i32_w]
    rfl
  refine take_ (i := 8) (N := some 13) (v := ?_) (a' := ?_) #[true, true, true, true, false, true, true, true, true, false, false, false, false] rfl rfl (take_ofW HT_.out HW_.out (by kernel_rfl)) (fun _ _ _ h => h) (Or.inl ⟨by rfl, ?_⟩) hHeld ?_ ?_
  rotate_left
  · rintro w' ⟨s0, s1, s2, s3, s4, s5⟩
    go_simp
    with_reducible rfl
  rotate_left
  · simp only [Act.put, List.setIfInBounds_toArray, List.set_cons_zero, List.set_cons_succ, i64_w, i32_w]
    rfl
  refine one_ (i := 4) (N := some 9) #[true, true, true, true, true, true, true, true, true, false, false, false, false] rfl rfl (one_of HT_.out (by kernel_rfl)) (by decide) (fun K hK => ?_)
  refine goes_ Try.func62 (by kernel_rfl) rfl #[.int .i64 a0_0, .int .i64 a1_0] (by rfl) rfl rfl (by (try simp only [List.map_toArray, List.map_cons, List.map_nil]); first | done | rfl | (simp only [List.length_drop, List.length_take]; rfl)) ?_
  with_reducible refine (cmp_Compare_int.calls a0_0 a1_0 t159 _ A3.out).mono ?_
  rintro e w' ⟨rfl, ⟨nd, rfl⟩⟩
  refine ⟨_, rfl, ?_⟩
  refine hK.out _ _ ⟨(blk_cell BK157.out 0).trans rfl, (blk_cell BK157.out 1).trans rfl, (blk_cell BK157.out 2).trans rfl, (blk_cell BK157.out 3).trans rfl, (blk_cell BK158.out 0).trans rfl, (blk_cell BK158.out 1).trans rfl⟩ (fun hHeld => ?_)
  clear hK K
  refine norm_ (a' := ?_) ?_ ?_
  rotate_left
  · show Act.put _ (some 9) _ = _
    simp only [Act.put, List.setIfInBounds_toArray, List.set_cons_zero, List.set_cons_succ, i64_w, i32_w]
    rfl
  refine one_ (i := 9) (N := some 14) #[true, true, true, true, true, true, true, true, true, true, false, false, false] rfl rfl (one_of HT_.out (by kernel_rfl)) (by decide) (fun K hK => ?_)
  refine goes_ Try.func62 (by kernel_rfl) rfl #[.int .i64 a0_1, .int .i64 a1_1] (by rfl) rfl rfl (by (try simp only [List.map_toArray, List.map_cons, List.map_nil]); first | done | rfl | (simp only [List.length_drop, List.length_take]; rfl)) ?_
  with_reducible refine (cmp_Compare_int.calls a0_1 a1_1 t160 _ A4.out).mono ?_
  rintro e w' ⟨rfl, ⟨nd, rfl⟩⟩
  refine ⟨_, rfl, ?_⟩
  refine hK.out _ _ ⟨(blk_cell BK157.out 0).trans rfl, (blk_cell BK157.out 1).trans rfl, (blk_cell BK157.out 2).trans rfl, (blk_cell BK157.out 3).trans rfl, (blk_cell BK158.out 0).trans rfl, (blk_cell BK158.out 1).trans rfl⟩ (fun hHeld => ?_)
  clear hK K
  refine norm_ (a' := ?_) ?_ ?_
  rotate_left
  · show Act.put _ (some 14) _ = _
    simp only [Act.put, List.setIfInBounds_toArray, List.set_cons_zero, List.set_cons_succ, i64_w, i32_w]
    rfl
  refine one_ (i := 10) (N := some 15) #[true, true, true, true, true, true, true, true, true, true, true, false, false] rfl rfl (one_of HT_.out (by kernel_rfl)) (by decide) (fun K hK => ?_)
  refine Kd.R_lit_step (Kd.int .i64) _ 3 ?hg (N := 15) ?hd (xs := ([t159, t160] : List Int)) (inner := [.int .i64 t159, .int .i64 t160]) (ok := fun _ => True) (okp := fun _ => True) ?hr ?hp (fun _ hk => hk) trivial (Below.refl _ _) (Nat.le_refl _) (by simp) ?_; (case hd => rfl); (case hg => rfl); (case hr => first | (go_simp; done) | (go_simp; rfl)); (case hp => exact (Reps.one (show Kd.M (Kd.int .i64) _ _ _ t159 [.int .i64 t159] from rfl) (Reps.one (show Kd.M (Kd.int .i64) _ _ _ t160 [.int .i64 t160] from rfl) (Reps.none _ _))))
  intro v162 w9 ho10 hb hg_ hnew_
  clear hg_ hnew_
  (first | rw [← Ny161.out] at ho10 | (simp only [Int.reduceToNat] at ho10; rw [← Ny161.out] at ho10))
  have n0_ := Aside0.mk (Kd.R_lower ho10 (below_size (by repeat (first | (with_reducible first | exact HB.out | apply below_alloc | apply pw_below_drewN | apply below_drew1 | refine below_set ?_ GE157.out | refine below_set ?_ GE158.out) | exact HB.out))))
  have n1_ := Aside0.mk (blk_below (g := gb157) (o := .cells #[.int .i64 a0_0, .int .i64 a0_1, .int .i64 a0_2, .int .i64 a0_3] 47 (0, 0)) (by (with_reducible repeat (first | refine blk_drewN ?_ _ | refine blk_drew ?_ | refine blk_alloc ?_ _)); exact BK157.out) hb)
  have n2_ := Aside0.mk (blk_below (g := gb158) (o := .cells #[.int .i64 a1_0, .int .i64 a1_1] 115 (0, 0)) (by (with_reducible repeat (first | refine blk_drewN ?_ _ | refine blk_drew ?_ | refine blk_alloc ?_ _)); exact BK158.out) hb)
  have n3_ := Aside0.mk (below_step (by repeat (first | (with_reducible first | exact HB.out | apply below_alloc | apply pw_below_drewN | apply below_drew1 | refine below_set ?_ GE157.out | refine below_set ?_ GE158.out) | exact HB.out)) hb)
  clear BK157
  clear BK158
  clear HB
  have HO163 := n0_
  have BK157 := n1_
  have BK158 := n2_
  have HB := n3_
  clear n0_ n1_ n2_ n3_
  clear hb ho10
  obtain ⟨Ao11, co11, eo11⟩ := Kd.R_slice HO163.out
  (first | subst eo11 | (injection eo11 with f1_ f2_ f3_; have f4_ := f1_.symm; have f5_ := f3_.symm; clear f1_ f2_ f3_; subst f4_; subst f5_))
  refine hK.out _ _ ⟨(blk_cell BK157.out 0).trans rfl, (blk_cell BK157.out 1).trans rfl, (blk_cell BK157.out 2).trans rfl, (blk_cell BK157.out 3).trans rfl, (blk_cell BK158.out 0).trans rfl, (blk_cell BK158.out 1).trans rfl⟩ (fun hHeld => ?_)
  clear hK K
  refine norm_ (a' := ?_) ?_ ?_
  rotate_left
  · show Act.put _ (some 15) _ = _
    simp only [Act.put, List.setIfInBounds_toArray, List.set_cons_zero, List.set_cons_succ, i64_w, i32_w]
    rfl
  refine one_ (i := 11) (N := some 16) #[true, true, true, true, true, true, true, true, true, true, true, true, false] rfl rfl (one_of HT_.out (by kernel_rfl)) (by decide) (fun K hK => ?_)
  refine goes_ Try.func61 (by kernel_rfl) rfl #[.slice Ao11 y161.length co11] (by rfl) rfl rfl (by (try simp only [List.map_toArray, List.map_cons, List.map_nil]); first | done | rfl | (simp only [List.length_drop, List.length_take]; rfl)) ?_
  with_reducible refine (cmp_Or_int.calls k _ _ y161 t164 _ ?side1 ?side2 A5.out).mono ?_
  (case side1 => repeat (first | exact (Kd.R_reads' HO163.out).2.2 | (with_reducible refine Kd.C_alloc ?_ _) | (with_reducible refine Kd.C_drewN ?_ _) | (with_reducible refine Kd.C_drew ?_)))
  (case side2 => exact (Kd.R_reads' HO163.out).2.1)
  rintro e w' ⟨rfl, ⟨nd, rfl⟩⟩
  refine ⟨_, rfl, ?_⟩
  refine hK.out _ _ ⟨(blk_cell BK157.out 0).trans rfl, (blk_cell BK157.out 1).trans rfl, (blk_cell BK157.out 2).trans rfl, (blk_cell BK157.out 3).trans rfl, (blk_cell BK158.out 0).trans rfl, (blk_cell BK158.out 1).trans rfl⟩ (fun hHeld => ?_)
  clear hK K
  refine norm_ (a' := ?_) ?_ ?_
  rotate_left
  · show Act.put _ (some 16) _ = _
    simp only [Act.put, List.setIfInBounds_toArray, List.set_cons_zero, List.set_cons_succ, i64_w, i32_w]
    rfl
  refine pure_ (i := 12) (N := some 4) (v := ?_) (a' := ?_) #[true, true, true, true, true, true, true, true, true, true, true, true, true] rfl rfl (any_of HT_.out (by kernel_rfl)) (fun _ _ _ h => h) (Or.inl ⟨by rfl, ?_⟩) ?_ ?_
  rotate_left
  · intro w'
    go_simp
    with_reducible rfl
  rotate_left
  · simp only [Act.put, List.setIfInBounds_toArray, List.set_cons_zero, List.set_cons_succ, i64_w, i32_w]
    rfl
  refine done_ (done_of HT_.out (by kernel_rfl)) ?_
  try go_wp2
  go_ret
  exact ⟨by first | rfl | (simp [errW_none, errW_some] <;> rfl) | (simp [*, errW_none, errW_some] <;> rfl), by repeat (first | (with_reducible first | exact HB.out | apply below_alloc | apply pw_below_drewN | apply below_drew1 | refine below_set ?_ GE157.out | refine below_set ?_ GE158.out) | exact HB.out)⟩
def sub_Level_1.f (a0_0 : Int) (a0_1 : Int) (a0_2 : Int) : Option (Bool) := (vec_Within.f a0_0 a0_1 a0_2 65536).bind fun t166 => (some (!t166))
set_option maxHeartbeats 8000000 in
set_option maxRecDepth 100000 in
theorem sub_Level_1.calls (a0_0 : Int) (a0_1 : Int) (a0_2 : Int) (r : Bool) (w : World) (h : sub_Level_1.f a0_0 a0_1 a0_2 = some r) :
    Calls Try.prog 33 #[.agg #[.int .i64 a0_0, .int .i64 a0_1, .int .i64 a0_2]] w fun e w' => e = .returned (.bool r) ∧ Below w.heap.size w w' := by
  have hu42 := Try.underlying42
  have HB := Aside0.mk (Below.refl w.heap.size w)
  have H : ((vec_Within.f a0_0 a0_1 a0_2 65536).bind fun t166 => (some (!t166))) = some r := h
  clear h
  replace H := Option.bind_eq_some_iff.mp H
  obtain ⟨t166, A20, H⟩ := H
  replace H : (some (!t166)) = some r := H
  have A2 := Aside0.mk A20
  clear A20
  obtain rfl := Option.some.inj H
  go_enter Try.func33, Try.ntmps33
  go_wp2_with (first | ((with_reducible refine gate_dst (N := 1) rfl ?_); refine box_event ?hg (N := 1) ?hd (cs := #[.int .i64 a0_0, .int .i64 a0_1, .int .i64 a0_2]) (t := 42) ?hr ?_; (case hd => rfl); (case hg => rfl); (case hr => first | (go_simp; done) | (go_simp; rfl)); intro gb165 hg w3 hbox hb; have n0_ := Aside0.mk (below_step (by repeat (first | (with_reducible first | exact HB.out | apply below_alloc | apply pw_below_drewN | apply below_drew1) | exact HB.out)) hb); have n1_ := Aside0.mk (hbox); have n2_ := Aside0.mk ((by rw [hg]; exact (below_size (by repeat (first | (with_reducible first | exact HB.out | apply below_alloc | apply pw_below_drewN | apply below_drew1) | exact HB.out))) : w.heap.size ≤ gb165)); have n3_ := Aside0.mk ((by rw [hg]; exact (below_size (by repeat (first | (with_reducible first | exact HB.out | apply below_alloc | apply pw_below_drewN | apply below_drew1) | exact HB.out))) : w.heap.size ≤ gb165)); clear HB; have HB := n0_; have BK165 := n1_; have GW165 := n2_; have GE165 := n3_; clear n0_ n1_ n2_ n3_; clear hb hbox hg; have hcz4_0 : w3.cell? ⟨gb165, 0, none⟩ = some (.int .i64 a0_0) := (blk_cell BK165.out 0).trans rfl; have hcz4_1 : w3.cell? ⟨gb165, 1, none⟩ = some (.int .i64 a0_1) := (blk_cell BK165.out 1).trans rfl; have hcz4_2 : w3.cell? ⟨gb165, 2, none⟩ = some (.int .i64 a0_2) := (blk_cell BK165.out 2).trans rfl; have hfz4_0 := blk_frozen BK165.out 0; have hfz4_1 := blk_frozen BK165.out 1; have hfz4_2 := blk_frozen BK165.out 2) | ((with_reducible refine gate_callee (f := 20) rfl ?_); refine goesL_ (some 4) rfl rfl Try.func20 (by kernel_rfl) rfl #[.agg #[.int .i64 a0_0, .int .i64 a0_1, .int .i64 a0_2], .int .i64 65536] rfl (by (try simp only [List.map_toArray, List.map_cons, List.map_nil]); first | done | rfl | (simp only [List.length_drop, List.length_take]; rfl)) ?_; (with_reducible refine (vec_Within.calls a0_0 a0_1 a0_2 65536 t166 _ A2.out).mono ?_); rintro e w5 ⟨rfl, hb⟩; refine ⟨_, rfl, ?_⟩; have n0_ := Aside0.mk (blk_below (g := gb165) (o := .cells #[.int .i64 a0_0, .int .i64 a0_1, .int .i64 a0_2] 42 (0, 0)) (by (with_reducible repeat (first | refine blk_drewN ?_ _ | refine blk_drew ?_ | refine blk_alloc ?_ _)); exact BK165.out) hb); have n1_ := Aside0.mk (below_step (by repeat (first | (with_reducible first | exact HB.out | apply below_alloc | apply pw_below_drewN | apply below_drew1 | refine below_set ?_ GE165.out) | exact HB.out)) hb); clear BK165; clear HB; have BK165 := n0_; have HB := n1_; clear n0_ n1_; (try clear hb); (try clear hb2); (try clear hk); (try clear hi)))
  go_ret
  exact ⟨by first | rfl | (simp [errW_none, errW_some] <;> rfl) | (simp [*, errW_none, errW_some] <;> rfl), by repeat (first | (with_reducible first | exact HB.out | apply below_alloc | apply pw_below_drewN | apply below_drew1 | refine below_set ?_ GE165.out) | exact HB.out)⟩
end Go.Proofs.Ytnjdjfengoaleaa.MSub
namespace Go.Proofs.Ytnjdjfengoaleaa.MSub
open Go.RowKit Go.Proofs.YtnjdjfengoaleaaW.PrintWords Go.Proofs.YtnjdjfengoaleaaW.PrintLast Go.Proofs.YtnjdjfengoaleaaW.PrintMore
open Go.Proofs.Ytnjdjfengoaleaa.Relv
set_option linter.unusedVariables false
set_option linter.unusedSimpArgs false
def cmpF (e : S47) (a b : Int) : Int := orI (cmpI e.f0 a) (cmpI e.f1 b)
theorem find1_spec (x0 x1 x2 x3 a b : Int) : topo_Find_1.f 4 x0 x1 x2 x3 a b = some (cmpF ⟨x0, x1, x2, x3⟩ a b) := by
  have hc : ∀ x y : Int, cmp_Compare_int.f x y = some (cmpI x y) := fun x y => by
    unfold cmp_Compare_int.f cmp_isNaN_int.f cmpI
    by_cases h1 : x < y
    · simp [h1]
    · by_cases h2 : y < x
      · simp [h1, h2]
      · simp [h1, h2]
  unfold topo_Find_1.f
  rw [hc, hc]
  simp only [Option.bind_some]
  unfold cmpF orI
  generalize cmpI x0 a = p
  generalize cmpI x1 b = q
  unfold cmp_Or_int.f
  simp only [cmp_Or_int.l0, List.length_cons, List.length_nil, rd]
  by_cases hp : p = 0
  · by_cases hq : q = 0
    · simp [hp, hq, wrap64]
    · simp [hp, hq, wrap64]
  · simp [hp]
theorem find1_calls (e : S47) (a b : Int) (w : World) :
    Calls Try.prog 65 #[.agg #[.int .i64 e.f0, .int .i64 e.f1, .int .i64 e.f2, .int .i64 e.f3], .agg #[.int .i64 a, .int .i64 b]] w fun r w' => r = .returned (.int .i64 (cmpF e a b)) ∧ Below w.heap.size w w' :=
  topo_Find_1.calls 4 _ _ _ _ _ _ _ w (find1_spec e.f0 e.f1 e.f2 e.f3 a b)
theorem goesV_ {P : Program} {ops : Array Oper} {Q : Exit → Act → World → Prop} {w : World} {oi : Oper} {N : Option Tmp} {a : Act} {K : Act → World → Prop} {f : FuncId} {fn : Func} {ar : Array Operand} {ts : Array TypeId} (c : Operand) (hf : P.funcs[f]? = some fn) (hname : (fn.name == "runtime.NumGoroutine") = false) (hb : fn.body.isSome = true) (args : Array Value)
    (hw : Region.wanted oi (yielded ops a.tmps) = true) (hN : oi.dst = N) (hop : oi.op = .call { callee := .value c, args := ar, argTypes := ts }) (hc : a.eval c = .func (.func f) #[] #[]) (hargs : ar.map a.eval = args)
    (h : Calls P f args w fun e w' => ∃ v, e = .returned v ∧ K (a.put N v) w') : if Region.wanted oi (yielded ops a.tmps) = true then Oper.wp P oi a w K Q else K (a.put N undef) w := by
  refine call_ f args hw hN ?_ h
  have he := enters_ hf hname hb args w
  unfold execOp
  simp [hop, hc, resolve, Deferred.ofValue, invoke, hargs, he]
theorem cmpI_neg (a b : Int) : cmpI a b < 0 ↔ a < b := by unfold cmpI; split <;> (try split) <;> omega
theorem cmpI_zero (a b : Int) : cmpI a b = 0 ↔ a = b := by unfold cmpI; split <;> (try split) <;> omega
theorem cmpF_neg (e : S47) (a b : Int) : cmpF e a b < 0 ↔ e.f0 < a ∨ (e.f0 = a ∧ e.f1 < b) := by
  unfold cmpF orI
  split
  · rename_i h
    rw [cmpI_neg]
    have := (cmpI_zero e.f0 a).1 h
    omega
  · rename_i h
    rw [cmpI_neg]
    have : ¬ e.f0 = a := fun h2 => h ((cmpI_zero e.f0 a).2 h2)
    omega
theorem cmpF_zero (e : S47) (a b : Int) : cmpF e a b = 0 ↔ e.f0 = a ∧ e.f1 = b := by
  unfold cmpF orI
  split
  · rename_i h
    rw [cmpI_zero]
    have := (cmpI_zero e.f0 a).1 h
    omega
  · rename_i h
    have h1 : ¬ e.f0 = a := fun h2 => h ((cmpI_zero e.f0 a).2 h2)
    omega
def Sorted47 (ES : List S47) : Prop := ES.Pairwise (fun x y => ¬ ltE y x)
theorem sorted_le {ES : List S47} (h : Sorted47 ES) {i j : Nat} (hij : i < j) (hj : j < ES.length) {a b : Int} (hp : cmpF (rd_T47 ES j) a b < 0) : cmpF (rd_T47 ES i) a b < 0 := by
  have hi : i < ES.length := by omega
  have h1 := List.pairwise_iff_getElem.1 h i j hi hj hij
  have e1 : rd_T47 ES (i : Int) = ES[i] := by simp [rd_T47, List.getD_eq_getElem?_getD, hi]
  have e2 : rd_T47 ES (j : Int) = ES[j] := by simp [rd_T47, List.getD_eq_getElem?_getD, hj]
  rw [e2] at hp
  rw [e1]
  rw [cmpF_neg] at hp ⊢
  unfold ltE at h1
  omega
set_option maxHeartbeats 1000000 in
set_option maxRecDepth 100000 in
theorem bs_calls (w : World) (A : Option Addr) (c : Nat) (ES : List S47) (a b : Int) (hE : Kd.C k47 w A ES.length ES) (hs : Sorted47 ES) (hl : ES.length ≤ 1099511627776) :
    Calls Try.prog 64 #[.slice A ES.length c, .agg #[.int .i64 a, .int .i64 b], .func (.func 65) #[] #[]] w fun e w' => ∃ (i : Nat) (r : Bool), e = .returned (.tuple #[.int .i64 i, .bool r]) ∧ i ≤ ES.length ∧ (∀ k : Nat, k < i → cmpF (rd_T47 ES k) a b < 0) ∧ (∀ k : Nat, i ≤ k → k < ES.length → 0 ≤ cmpF (rd_T47 ES k) a b) ∧
      r = (decide (i < ES.length) && (cmpF (rd_T47 ES i) a b == 0)) ∧ Below w.heap.size w w' := by
  have HE := Aside0.mk hE
  have HS := Aside0.mk hs
  have hb0 : Below w.heap.size w (w.alloc (.cells #[.int .i64 a, .int .i64 b] 115)) := below_alloc (Below.refl _ _) _
  have h4 := heap_alloc_new w (.cells #[.int .i64 a, .int .i64 b] 115)
  obtain ⟨W0, hW0⟩ : ∃ W0, w.alloc (.cells #[.int .i64 a, .int .i64 b] 115) = W0 := ⟨_, rfl⟩
  rw [hW0] at hb0 h4
  have HB0 := Aside0.mk hb0
  have H4 := Aside0.mk h4
  clear hE hs hb0 h4
  go_enter Try.func64, Try.ntmps64
  go_wp2_with fail
  clear hW0
  go_loopw [9, 10] (fun v9 v10 wr => ∃ i j : Nat, i ≤ j ∧ j ≤ ES.length ∧ v9 = .int .i64 i ∧ v10 = .int .i64 j ∧ Aside0 (∀ k : Nat, k < i → cmpF (rd_T47 ES k) a b < 0) ∧ Aside0 (∀ k : Nat, j ≤ k → k < ES.length → 0 ≤ cmpF (rd_T47 ES k) a b) ∧ Aside0 (wr.heap[w.heap.size]? = some (.cells #[.int .i64 a, .int .i64 b] 115 (0, 0))) ∧ Aside0 (Below w.heap.size w wr))
    (fun v9 v10 _ => (intOf v10).toNat - (intOf v9).toNat)
  case atStart => exact ⟨0, ES.length, Nat.zero_le _, Nat.le_refl _, rfl, rfl, ⟨fun k hk => by omega⟩, ⟨fun k h1 h2 => by omega⟩, H4, HB0⟩
  case round =>
    obtain ⟨i, j, hij, hj, rfl, rfl, HL, HH, HR4, HB⟩ := hrel
    by_cases hlt : i < j
    · obtain ⟨m, hm⟩ : ∃ m : Nat, ((i : Int) + j) / 2 = m := ⟨(((i : Int) + j) / 2).toNat, by omega⟩
      have hm1 : i ≤ m := by omega
      have hm2 : m < j := by omega
      obtain ⟨ad, rfl, hx0, hx1, hx2, hx3⟩ := at_T47 (Kd.C_below HE.out HB.out) (m : Int) (by omega) (by omega)
      rw [Int.toNat_natCast] at hx0 hx1 hx2 hx3
      obtain ⟨ed, hed⟩ : ∃ ed, rd_T47 ES (m : Int) = ed := ⟨_, rfl⟩
      have HED := Aside0.mk hed
      rw [hed] at hx0 hx1 hx2 hx3
      have hq0 := Aside0.mk hx0
      have hq1 := Aside0.mk hx1
      have hq2 := Aside0.mk hx2
      have hq3 := Aside0.mk hx3
      have HM := Aside0.mk hm
      clear hx0 hx1 hx2 hx3 hed
      go_wp2_with fail
      clear hm
      have hml : (m : Int) < (ES.length : Int) := by omega
      have hm0 : (0 : Int) ≤ (m : Int) := by omega
      refine start_ (n := 8) (S := (fun w' => w'.cell? ⟨w.heap.size, 0, none⟩ = some (.int .i64 a) ∧ w'.cell? ⟨w.heap.size, 1, none⟩ = some (.int .i64 b) ∧ w'.cell? (ad.add (m * 4)) = some (.int .i64 ed.f0) ∧ w'.cell? ⟨(ad.add (m * 4)).block, (ad.add (m * 4)).off + 1, none⟩ = some (.int .i64 ed.f1) ∧ w'.cell? ⟨(ad.add (m * 4)).block, (ad.add (m * 4)).off + 2, none⟩ = some (.int .i64 ed.f2) ∧ w'.cell? ⟨(ad.add (m * 4)).block, (ad.add (m * 4)).off + 3, none⟩ = some (.int .i64 ed.f3))) (ds := []) #[false, false, false, false, false, false, false, false] (by kernel_rfl) rfl rfl ⟨(blk_cell (blk_drew HR4.out) 0).trans rfl, (blk_cell (blk_drew HR4.out) 1).trans rfl, hq0.out, hq1.out, hq2.out, hq3.out⟩ (fun hHeld => ?_)
      have HB1 := Aside0.mk (below_drew HB.out)
      have H14 := Aside0.mk (blk_drew HR4.out)
      have HX : Aside0 (Below wr.heap.size wr wr.drew) := ⟨below_drew (Below.refl _ _)⟩
      generalize wr.drew = W1 at hHeld HB1 H14 HX ⊢
      refine pure_ (i := 0) (N := some 24) (v := ?_) (a' := ?_) #[true, false, false, false, false, false, false, false] rfl rfl (by kernel_rfl) (fun _ _ _ h => h) (Or.inl ⟨by rfl, ?_⟩) ?_ ?_
      rotate_left
      · (intro w'; go_simp; with_reducible rfl)
      rotate_left
      · (simp only [Act.put, List.setIfInBounds_toArray, List.set_cons_zero, List.set_cons_succ, i64_w, i32_w]; rfl)
      refine pure_ (i := 1) (N := some 25) (v := ?_) (a' := ?_) #[true, true, false, false, false, false, false, false] rfl rfl (by kernel_rfl) (fun _ _ _ h => h) (Or.inl ⟨by rfl, ?_⟩) ?_ ?_
      rotate_left
      · (intro w'; go_simp; with_reducible rfl)
      rotate_left
      · (simp only [Act.put, List.setIfInBounds_toArray, List.set_cons_zero, List.set_cons_succ, i64_w, i32_w]; rfl)
      refine pure_ (i := 2) (N := some 26) (v := ?_) (a' := ?_) #[true, true, true, false, false, false, false, false] rfl rfl (by kernel_rfl) (fun _ _ _ h => h) (Or.inl ⟨by rfl, ?_⟩) ?_ ?_
      rotate_left
      · (intro w'; go_simp; with_reducible rfl)
      rotate_left
      · (simp only [Act.put, List.setIfInBounds_toArray, List.set_cons_zero, List.set_cons_succ, i64_w, i32_w]; rfl)
      refine pure_ (i := 3) (N := some 27) (v := ?_) (a' := ?_) #[true, true, true, true, false, false, false, false] rfl rfl (by kernel_rfl) (fun _ _ _ h => h) (Or.inl ⟨by rfl, ?_⟩) ?_ ?_
      rotate_left
      · (intro w'; go_simp; with_reducible rfl)
      rotate_left
      · (simp only [Act.put, List.setIfInBounds_toArray, List.set_cons_zero, List.set_cons_succ, i64_w, i32_w]; rfl)
      refine take_ (i := 4) (N := some 28) (v := ?_) (a' := ?_) #[true, true, true, true, true, false, false, false] rfl rfl (by kernel_rfl) (fun _ _ _ h => h) (Or.inl ⟨by rfl, ?_⟩) (by assumption) ?_ ?_
      rotate_left
      · (intro w' hSw; (try dsimp only at hSw); go_split_ands; go_simp; with_reducible rfl)
      rotate_left
      · (simp only [Act.put, List.setIfInBounds_toArray, List.set_cons_zero, List.set_cons_succ, i64_w, i32_w]; rfl)
      refine take_ (i := 5) (N := some 29) (v := ?_) (a' := ?_) #[true, true, true, true, true, true, false, false] rfl rfl (by kernel_rfl) (fun _ _ _ h => h) (Or.inl ⟨by rfl, ?_⟩) (by assumption) ?_ ?_
      rotate_left
      · (intro w' hSw; (try dsimp only at hSw); go_split_ands; go_simp; with_reducible rfl)
      rotate_left
      · (simp only [Act.put, List.setIfInBounds_toArray, List.set_cons_zero, List.set_cons_succ, i64_w, i32_w]; rfl)
      refine one_ (i := 6) (N := some 30) #[true, true, true, true, true, true, true, false] rfl rfl (by kernel_rfl) (by decide) (fun K hK => ?_)
      refine goesV_ (.tmp 24) Try.func65 (by kernel_rfl) rfl #[.agg #[.int .i64 ed.f0, .int .i64 ed.f1, .int .i64 ed.f2, .int .i64 ed.f3], .agg #[.int .i64 a, .int .i64 b]] (by rfl) rfl rfl rfl (by (try simp only [List.map_toArray, List.map_cons, List.map_nil]); rfl) ?_
      refine (find1_calls ed a b _).mono ?_
      rintro e W2 ⟨rfl, hb2⟩
      refine ⟨_, rfl, ?_⟩
      have HB2 := Aside0.mk (below_then HB1.out HB1.out.size hb2)
      have H24 := Aside0.mk ((hb2.block _ (lt_of_block H14.out)).trans H14.out)
      have hh := hHeld
      obtain ⟨_, _, k2, k3, k4, k5⟩ := hh
      refine hK.out _ _ ⟨(blk_cell H24.out 0).trans rfl, (blk_cell H24.out 1).trans rfl, pw_cell_below hb2 k2, pw_cell_below hb2 k3, pw_cell_below hb2 k4, pw_cell_below hb2 k5⟩ (fun hHeld => ?_)
      clear hK K
      refine norm_ (a' := ?_) ?_ ?_
      rotate_left
      · (simp only [Act.put, List.setIfInBounds_toArray, List.set_cons_zero, List.set_cons_succ, i64_w, i32_w]; rfl)
      clear k2 k3 k4 k5 hb2 HX HB1 H14
      refine pure_ (i := 7) (N := some 31) (v := ?_) (a' := ?_) #[true, true, true, true, true, true, true, true] rfl rfl (by kernel_rfl) (fun _ _ _ h => h) (Or.inl ⟨by rfl, ?_⟩) ?_ ?_
      rotate_left
      · (intro w'; go_simp; with_reducible rfl)
      rotate_left
      · (simp only [Act.put, List.setIfInBounds_toArray, List.set_cons_zero, List.set_cons_succ, i64_w, i32_w]; rfl)
      refine done_ (by kernel_rfl) ?_
      clear hHeld
      obtain ⟨cm, hcm⟩ : ∃ cm, cmpF ed a b = cm := ⟨_, rfl⟩
      rw [hcm]
      have HCM := Aside0.mk hcm
      clear hcm
      by_cases hneg : cm < 0
      · have HNEG := Aside0.mk hneg
        go_wp2_with fail
        go_roundw
        case rel =>
          refine ⟨m + 1, j, by omega, hj, by go_num, rfl, ⟨fun k hk => ?_⟩, HH, H24, HB2⟩
          rcases Nat.lt_or_ge k m with h | h
          · exact sorted_le HS.out h (by omega) (by rw [HED.out, HCM.out]; exact HNEG.out)
          · obtain rfl : k = m := by omega
            rw [HED.out, HCM.out]
            exact HNEG.out
        case measure => simp [intOf]; omega
      · have HNEG := Aside0.mk hneg
        go_wp2_with fail
        go_roundw
        case rel =>
          refine ⟨i, m, by omega, by omega, rfl, rfl, HL, ⟨fun k h1 h2 => ?_⟩, H24, HB2⟩
          rcases Nat.lt_or_ge m k with h | h
          · rcases Int.lt_or_le (cmpF (rd_T47 ES k) a b) 0 with h3 | h3
            · have := sorted_le HS.out h h2 h3
              rw [HED.out, HCM.out] at this
              exact absurd this HNEG.out
            · exact h3
          · obtain rfl : k = m := by omega
            rw [HED.out, HCM.out]
            exact Int.not_lt.1 HNEG.out
        case measure => simp [intOf]; omega
    · obtain rfl : i = j := by omega
      by_cases hin : i < ES.length
      · obtain ⟨ad, rfl, hx0, hx1, hx2, hx3⟩ := at_T47 (Kd.C_below HE.out HB.out) (i : Int) (by omega) (by omega)
        rw [Int.toNat_natCast] at hx0 hx1 hx2 hx3
        obtain ⟨ed, hed⟩ : ∃ ed, rd_T47 ES (i : Int) = ed := ⟨_, rfl⟩
        have HED := Aside0.mk hed
        rw [hed] at hx0 hx1 hx2 hx3
        have hq0 := Aside0.mk hx0
        have hq1 := Aside0.mk hx1
        have hq2 := Aside0.mk hx2
        have hq3 := Aside0.mk hx3
        clear hx0 hx1 hx2 hx3 hed
        have hml : (i : Int) < (ES.length : Int) := by omega
        have hm0 : (0 : Int) ≤ (i : Int) := by omega
        go_wp2_with fail
        refine start_ (n := 16) (S := (fun w' => w'.cell? ⟨w.heap.size, 0, none⟩ = some (.int .i64 a) ∧ w'.cell? ⟨w.heap.size, 1, none⟩ = some (.int .i64 b) ∧ w'.cell? (ad.add (i * 4)) = some (.int .i64 ed.f0) ∧ w'.cell? ⟨(ad.add (i * 4)).block, (ad.add (i * 4)).off + 1, none⟩ = some (.int .i64 ed.f1) ∧ w'.cell? ⟨(ad.add (i * 4)).block, (ad.add (i * 4)).off + 2, none⟩ = some (.int .i64 ed.f2) ∧ w'.cell? ⟨(ad.add (i * 4)).block, (ad.add (i * 4)).off + 3, none⟩ = some (.int .i64 ed.f3))) (ds := []) #[false, false, false, false, false, false, false, false, false, false, false, false, false, false, false, false] (by kernel_rfl) rfl rfl ⟨(blk_cell (blk_drew HR4.out) 0).trans rfl, (blk_cell (blk_drew HR4.out) 1).trans rfl, hq0.out, hq1.out, hq2.out, hq3.out⟩ (fun hHeld => ?_)
        have HB1 := Aside0.mk (below_drew HB.out)
        have H14 := Aside0.mk (blk_drew HR4.out)
        generalize wr.drew = W1 at hHeld HB1 H14 ⊢
        refine pure_ (i := 0) (N := some 35) (v := ?_) (a' := ?_) #[true, false, false, false, false, false, false, false, false, false, false, false, false, false, false, false] rfl rfl (by kernel_rfl) (fun _ _ _ h => h) (Or.inl ⟨by rfl, ?_⟩) ?_ ?_
        rotate_left
        · (intro w'; go_simp; with_reducible rfl)
        rotate_left
        · (simp only [Act.put, List.setIfInBounds_toArray, List.set_cons_zero, List.set_cons_succ, i64_w, i32_w]; rfl)
        refine pure_ (i := 1) (N := some 36) (v := ?_) (a' := ?_) #[true, true, false, false, false, false, false, false, false, false, false, false, false, false, false, false] rfl rfl (by kernel_rfl) (fun _ _ _ h => h) (Or.inl ⟨by rfl, ?_⟩) ?_ ?_
        rotate_left
        · (intro w'; go_simp; with_reducible rfl)
        rotate_left
        · (simp only [Act.put, List.setIfInBounds_toArray, List.set_cons_zero, List.set_cons_succ, i64_w, i32_w]; rfl)
        refine pure_ (i := 2) (N := some 37) (v := ?_) (a' := ?_) #[true, true, true, false, false, false, false, false, false, false, false, false, false, false, false, false] rfl rfl (by kernel_rfl) (fun _ _ _ h => h) (Or.inl ⟨by rfl, ?_⟩) ?_ ?_
        rotate_left
        · (intro w'; go_simp; with_reducible rfl)
        rotate_left
        · (simp only [Act.put, List.setIfInBounds_toArray, List.set_cons_zero, List.set_cons_succ, i64_w, i32_w]; rfl)
        refine pure_ (i := 3) (N := some 38) (v := ?_) (a' := ?_) #[true, true, true, true, false, false, false, false, false, false, false, false, false, false, false, false] rfl rfl (by kernel_rfl) (fun _ _ _ h => h) (Or.inl ⟨by rfl, ?_⟩) ?_ ?_
        rotate_left
        · (intro w'; go_simp; with_reducible rfl)
        rotate_left
        · (simp only [Act.put, List.setIfInBounds_toArray, List.set_cons_zero, List.set_cons_succ, i64_w, i32_w]; rfl)
        refine pure_ (i := 4) (N := some 39) (v := ?_) (a' := ?_) #[true, true, true, true, true, false, false, false, false, false, false, false, false, false, false, false] rfl rfl (by kernel_rfl) (fun _ _ _ h => h) (Or.inl ⟨by rfl, ?_⟩) ?_ ?_
        rotate_left
        · (intro w'; go_simp; with_reducible rfl)
        rotate_left
        · (simp only [Act.put, List.setIfInBounds_toArray, List.set_cons_zero, List.set_cons_succ, i64_w, i32_w]; rfl)
        refine pure_ (i := 5) (N := some 40) (v := ?_) (a' := ?_) #[true, true, true, true, true, true, false, false, false, false, false, false, false, false, false, false] rfl rfl (by kernel_rfl) (fun _ _ _ h => h) (Or.inl ⟨by rfl, ?_⟩) ?_ ?_
        rotate_left
        · (intro w'; go_simp; with_reducible rfl)
        rotate_left
        · (simp only [Act.put, List.setIfInBounds_toArray, List.set_cons_zero, List.set_cons_succ, i64_w, i32_w]; rfl)
        refine pure_ (i := 6) (N := some 41) (v := ?_) (a' := ?_) #[true, true, true, true, true, true, true, false, false, false, false, false, false, false, false, false] rfl rfl (by kernel_rfl) (fun _ _ _ h => h) (Or.inl ⟨by rfl, ?_⟩) ?_ ?_
        rotate_left
        · (intro w'; go_simp; with_reducible rfl)
        rotate_left
        · (simp only [Act.put, List.setIfInBounds_toArray, List.set_cons_zero, List.set_cons_succ, i64_w, i32_w]; rfl)
        refine pure_ (i := 7) (N := some 42) (v := ?_) (a' := ?_) #[true, true, true, true, true, true, true, true, false, false, false, false, false, false, false, false] rfl rfl (by kernel_rfl) (fun _ _ _ h => h) (Or.inl ⟨by rfl, ?_⟩) ?_ ?_
        rotate_left
        · (intro w'; go_simp; with_reducible rfl)
        rotate_left
        · (simp only [Act.put, List.setIfInBounds_toArray, List.set_cons_zero, List.set_cons_succ, i64_w, i32_w]; rfl)
        refine pure_ (i := 8) (N := some 43) (v := ?_) (a' := ?_) #[true, true, true, true, true, true, true, true, true, false, false, false, false, false, false, false] rfl rfl (by kernel_rfl) (fun _ _ _ h => h) (Or.inl ⟨by rfl, ?_⟩) ?_ ?_
        rotate_left
        · (intro w'; go_simp; with_reducible rfl)
        rotate_left
        · (simp only [Act.put, List.setIfInBounds_toArray, List.set_cons_zero, List.set_cons_succ, i64_w, i32_w]; rfl)
        refine take_ (i := 9) (N := some 44) (v := ?_) (a' := ?_) #[true, true, true, true, true, true, true, true, true, true, false, false, false, false, false, false] rfl rfl (by kernel_rfl) (fun _ _ _ h => h) (Or.inl ⟨by rfl, ?_⟩) (by assumption) ?_ ?_
        rotate_left
        · (intro w' hSw; (try dsimp only at hSw); go_split_ands; go_simp; with_reducible rfl)
        rotate_left
        · (simp only [Act.put, List.setIfInBounds_toArray, List.set_cons_zero, List.set_cons_succ, i64_w, i32_w]; rfl)
        refine take_ (i := 10) (N := some 45) (v := ?_) (a' := ?_) #[true, true, true, true, true, true, true, true, true, true, true, false, false, false, false, false] rfl rfl (by kernel_rfl) (fun _ _ _ h => h) (Or.inl ⟨by rfl, ?_⟩) (by assumption) ?_ ?_
        rotate_left
        · (intro w' hSw; (try dsimp only at hSw); go_split_ands; go_simp; with_reducible rfl)
        rotate_left
        · (simp only [Act.put, List.setIfInBounds_toArray, List.set_cons_zero, List.set_cons_succ, i64_w, i32_w]; rfl)
        refine one_ (i := 11) (N := some 46) #[true, true, true, true, true, true, true, true, true, true, true, true, false, false, false, false] rfl rfl (by kernel_rfl) (by decide) (fun K hK => ?_)
        refine goesV_ (.tmp 40) Try.func65 (by kernel_rfl) rfl #[.agg #[.int .i64 ed.f0, .int .i64 ed.f1, .int .i64 ed.f2, .int .i64 ed.f3], .agg #[.int .i64 a, .int .i64 b]] (by rfl) rfl rfl rfl (by (try simp only [List.map_toArray, List.map_cons, List.map_nil]); rfl) ?_
        refine (find1_calls ed a b _).mono ?_
        rintro e W2 ⟨rfl, hb2⟩
        refine ⟨_, rfl, ?_⟩
        have HB2 := Aside0.mk (below_then HB1.out HB1.out.size hb2)
        have H24 := Aside0.mk ((hb2.block _ (lt_of_block H14.out)).trans H14.out)
        have hh := hHeld
        obtain ⟨_, _, k2, k3, k4, k5⟩ := hh
        refine hK.out _ _ ⟨(blk_cell H24.out 0).trans rfl, (blk_cell H24.out 1).trans rfl, pw_cell_below hb2 k2, pw_cell_below hb2 k3, pw_cell_below hb2 k4, pw_cell_below hb2 k5⟩ (fun hHeld => ?_)
        clear hK K
        refine norm_ (a' := ?_) ?_ ?_
        rotate_left
        · (simp only [Act.put, List.setIfInBounds_toArray, List.set_cons_zero, List.set_cons_succ, i64_w, i32_w]; rfl)
        clear k2 k3 k4 k5 hb2 HB1 H14
        refine pure_ (i := 12) (N := some 47) (v := ?_) (a' := ?_) #[true, true, true, true, true, true, true, true, true, true, true, true, true, false, false, false] rfl rfl (by kernel_rfl) (fun _ _ _ h => h) (Or.inl ⟨by rfl, ?_⟩) ?_ ?_
        rotate_left
        · (intro w'; go_simp; with_reducible rfl)
        rotate_left
        · (simp only [Act.put, List.setIfInBounds_toArray, List.set_cons_zero, List.set_cons_succ, i64_w, i32_w]; rfl)
        refine pure_ (i := 13) (N := some 48) (v := ?_) (a' := ?_) #[true, true, true, true, true, true, true, true, true, true, true, true, true, true, false, false] rfl rfl (by kernel_rfl) (fun _ _ _ h => h) (Or.inl ⟨by rfl, ?_⟩) ?_ ?_
        rotate_left
        · (intro w'; go_simp; with_reducible rfl)
        rotate_left
        · (simp only [Act.put, List.setIfInBounds_toArray, List.set_cons_zero, List.set_cons_succ, i64_w, i32_w]; rfl)
        refine pure_ (i := 14) (N := some 6) (v := ?_) (a' := ?_) #[true, true, true, true, true, true, true, true, true, true, true, true, true, true, true, false] rfl rfl (by kernel_rfl) (fun _ _ _ h => h) (Or.inl ⟨by rfl, ?_⟩) ?_ ?_
        rotate_left
        · (intro w'; go_simp; with_reducible rfl)
        rotate_left
        · (simp only [Act.put, List.setIfInBounds_toArray, List.set_cons_zero, List.set_cons_succ, i64_w, i32_w]; rfl)
        refine pure_ (i := 15) (N := some 7) (v := ?_) (a' := ?_) #[true, true, true, true, true, true, true, true, true, true, true, true, true, true, true, true] rfl rfl (by kernel_rfl) (fun _ _ _ h => h) (Or.inl ⟨by rfl, ?_⟩) ?_ ?_
        rotate_left
        · (intro w'; go_simp; with_reducible rfl)
        rotate_left
        · (simp only [Act.put, List.setIfInBounds_toArray, List.set_cons_zero, List.set_cons_succ, i64_w, i32_w]; rfl)
        refine done_ (by kernel_rfl) ?_
        clear hHeld
        obtain ⟨cm, hcm⟩ : ∃ cm, cmpF ed a b = cm := ⟨_, rfl⟩
        rw [hcm]
        have HCM := Aside0.mk hcm
        have HIN := Aside0.mk hin
        clear hcm hin hml
        go_wp2_with fail
        refine bodyPost_ret (results_tmp2 rfl _ _ _) rfl ?_
        exact ⟨i, cm == 0, rfl, hj, HL.out, HH.out, by rw [decide_eq_true HIN.out, HED.out, HCM.out]; rfl, HB2.out⟩
      · have hml : ¬ (i : Int) < (ES.length : Int) := by omega
        go_wp2_with fail
        refine start_ (n := 16) (S := (fun w' => True)) (ds := []) #[false, false, false, false, false, false, false, false, false, false, false, false, false, false, false, false] (by kernel_rfl) rfl rfl trivial (fun hHeld => ?_)
        have HB1 := Aside0.mk (below_drew HB.out)
        generalize wr.drew = W1 at hHeld HB1 ⊢
        refine pure_ (i := 0) (N := some 35) (v := ?_) (a' := ?_) #[true, false, false, false, false, false, false, false, false, false, false, false, false, false, false, false] rfl rfl (by kernel_rfl) (fun _ _ _ h => h) (Or.inl ⟨by rfl, ?_⟩) ?_ ?_
        rotate_left
        · (intro w'; go_simp; with_reducible rfl)
        rotate_left
        · (simp only [Act.put, List.setIfInBounds_toArray, List.set_cons_zero, List.set_cons_succ, i64_w, i32_w]; rfl)
        refine pure_ (i := 1) (N := some 36) (v := ?_) (a' := ?_) #[true, true, false, false, false, false, false, false, false, false, false, false, false, false, false, false] rfl rfl (by kernel_rfl) (fun _ _ _ h => h) (Or.inl ⟨by rfl, ?_⟩) ?_ ?_
        rotate_left
        · (intro w'; go_simp; with_reducible rfl)
        rotate_left
        · (simp only [Act.put, List.setIfInBounds_toArray, List.set_cons_zero, List.set_cons_succ, i64_w, i32_w]; rfl)
        refine pure_ (i := 2) (N := some 37) (v := ?_) (a' := ?_) #[true, true, true, false, false, false, false, false, false, false, false, false, false, false, false, false] rfl rfl (by kernel_rfl) (fun _ _ _ h => h) (Or.inl ⟨by rfl, ?_⟩) ?_ ?_
        rotate_left
        · (intro w'; go_simp; with_reducible rfl)
        rotate_left
        · (simp only [Act.put, List.setIfInBounds_toArray, List.set_cons_zero, List.set_cons_succ, i64_w, i32_w]; rfl)
        refine pure_ (i := 3) (N := some 38) (v := ?_) (a' := ?_) #[true, true, true, true, false, false, false, false, false, false, false, false, false, false, false, false] rfl rfl (by kernel_rfl) (fun _ _ _ h => h) (Or.inl ⟨by rfl, ?_⟩) ?_ ?_
        rotate_left
        · (intro w'; go_simp; with_reducible rfl)
        rotate_left
        · (simp only [Act.put, List.setIfInBounds_toArray, List.set_cons_zero, List.set_cons_succ, i64_w, i32_w]; rfl)
        refine pure_ (i := 4) (N := some 39) (v := ?_) (a' := ?_) #[true, true, true, true, true, false, false, false, false, false, false, false, false, false, false, false] rfl rfl (by kernel_rfl) (fun _ _ _ h => h) (Or.inl ⟨by rfl, ?_⟩) ?_ ?_
        rotate_left
        · (intro w'; go_simp; with_reducible rfl)
        rotate_left
        · (simp only [Act.put, List.setIfInBounds_toArray, List.set_cons_zero, List.set_cons_succ, i64_w, i32_w]; rfl)
        refine pure_ (i := 5) (N := some 40) (v := undef) (a' := ?_) #[true, true, true, true, true, true, false, false, false, false, false, false, false, false, false, false] rfl rfl (by kernel_rfl) (fun _ _ _ h => h) (Or.inr ⟨by rfl, rfl⟩) ?_ ?_
        rotate_left
        · (simp only [Act.put, List.setIfInBounds_toArray, List.set_cons_zero, List.set_cons_succ, i64_w, i32_w]; rfl)
        refine pure_ (i := 6) (N := some 41) (v := undef) (a' := ?_) #[true, true, true, true, true, true, true, false, false, false, false, false, false, false, false, false] rfl rfl (by kernel_rfl) (fun _ _ _ h => h) (Or.inr ⟨by rfl, rfl⟩) ?_ ?_
        rotate_left
        · (simp only [Act.put, List.setIfInBounds_toArray, List.set_cons_zero, List.set_cons_succ, i64_w, i32_w]; rfl)
        refine pure_ (i := 7) (N := some 42) (v := undef) (a' := ?_) #[true, true, true, true, true, true, true, true, false, false, false, false, false, false, false, false] rfl rfl (by kernel_rfl) (fun _ _ _ h => h) (Or.inr ⟨by rfl, rfl⟩) ?_ ?_
        rotate_left
        · (simp only [Act.put, List.setIfInBounds_toArray, List.set_cons_zero, List.set_cons_succ, i64_w, i32_w]; rfl)
        refine pure_ (i := 8) (N := some 43) (v := undef) (a' := ?_) #[true, true, true, true, true, true, true, true, true, false, false, false, false, false, false, false] rfl rfl (by kernel_rfl) (fun _ _ _ h => h) (Or.inr ⟨by rfl, rfl⟩) ?_ ?_
        rotate_left
        · (simp only [Act.put, List.setIfInBounds_toArray, List.set_cons_zero, List.set_cons_succ, i64_w, i32_w]; rfl)
        refine pure_ (i := 9) (N := some 44) (v := undef) (a' := ?_) #[true, true, true, true, true, true, true, true, true, true, false, false, false, false, false, false] rfl rfl (by kernel_rfl) (fun _ _ _ h => h) (Or.inr ⟨by rfl, rfl⟩) ?_ ?_
        rotate_left
        · (simp only [Act.put, List.setIfInBounds_toArray, List.set_cons_zero, List.set_cons_succ, i64_w, i32_w]; rfl)
        refine pure_ (i := 10) (N := some 45) (v := undef) (a' := ?_) #[true, true, true, true, true, true, true, true, true, true, true, false, false, false, false, false] rfl rfl (by kernel_rfl) (fun _ _ _ h => h) (Or.inr ⟨by rfl, rfl⟩) ?_ ?_
        rotate_left
        · (simp only [Act.put, List.setIfInBounds_toArray, List.set_cons_zero, List.set_cons_succ, i64_w, i32_w]; rfl)
        refine pure_ (i := 11) (N := some 46) (v := undef) (a' := ?_) #[true, true, true, true, true, true, true, true, true, true, true, true, false, false, false, false] rfl rfl (by kernel_rfl) (fun _ _ _ h => h) (Or.inr ⟨by rfl, rfl⟩) ?_ ?_
        rotate_left
        · (simp only [Act.put, List.setIfInBounds_toArray, List.set_cons_zero, List.set_cons_succ, i64_w, i32_w]; rfl)
        refine pure_ (i := 12) (N := some 47) (v := undef) (a' := ?_) #[true, true, true, true, true, true, true, true, true, true, true, true, true, false, false, false] rfl rfl (by kernel_rfl) (fun _ _ _ h => h) (Or.inr ⟨by rfl, rfl⟩) ?_ ?_
        rotate_left
        · (simp only [Act.put, List.setIfInBounds_toArray, List.set_cons_zero, List.set_cons_succ, i64_w, i32_w]; rfl)
        refine pure_ (i := 13) (N := some 48) (v := ?_) (a' := ?_) #[true, true, true, true, true, true, true, true, true, true, true, true, true, true, false, false] rfl rfl (by kernel_rfl) (fun _ _ _ h => h) (Or.inl ⟨by rfl, ?_⟩) ?_ ?_
        rotate_left
        · (intro w'; go_simp; with_reducible rfl)
        rotate_left
        · (simp only [Act.put, List.setIfInBounds_toArray, List.set_cons_zero, List.set_cons_succ, i64_w, i32_w]; rfl)
        refine pure_ (i := 14) (N := some 6) (v := ?_) (a' := ?_) #[true, true, true, true, true, true, true, true, true, true, true, true, true, true, true, false] rfl rfl (by kernel_rfl) (fun _ _ _ h => h) (Or.inl ⟨by rfl, ?_⟩) ?_ ?_
        rotate_left
        · (intro w'; go_simp; with_reducible rfl)
        rotate_left
        · (simp only [Act.put, List.setIfInBounds_toArray, List.set_cons_zero, List.set_cons_succ, i64_w, i32_w]; rfl)
        refine pure_ (i := 15) (N := some 7) (v := ?_) (a' := ?_) #[true, true, true, true, true, true, true, true, true, true, true, true, true, true, true, true] rfl rfl (by kernel_rfl) (fun _ _ _ h => h) (Or.inl ⟨by rfl, ?_⟩) ?_ ?_
        rotate_left
        · (intro w'; go_simp; with_reducible rfl)
        rotate_left
        · (simp only [Act.put, List.setIfInBounds_toArray, List.set_cons_zero, List.set_cons_succ, i64_w, i32_w]; rfl)
        refine done_ (by kernel_rfl) ?_
        have HIN := Aside0.mk hin
        clear hin hml
        go_wp2_with fail
        refine bodyPost_ret (results_tmp2 rfl _ _ _) rfl ?_
        exact ⟨i, false, rfl, hj, HL.out, HH.out, by rw [decide_eq_false HIN.out]; rfl, HB1.out⟩
end Go.Proofs.Ytnjdjfengoaleaa.MSub
namespace Go.Proofs.Ytnjdjfengoaleaa.MSub
open Go.RowKit Go.Proofs.YtnjdjfengoaleaaW.PrintWords Go.Proofs.YtnjdjfengoaleaaW.PrintLast Go.Proofs.YtnjdjfengoaleaaW.PrintMore
open Go.Proofs.Ytnjdjfengoaleaa.Relv
attribute [local go_sem] max2_mx min2_mn max_two min_two
set_option linter.unusedVariables false
set_option linter.unusedSimpArgs false
instance (ES : List S47) : Decidable (Sorted47 ES) := inferInstanceAs (Decidable (List.Pairwise _ _))
def findE (ES : List S47) (a b : Int) : Int × Bool := match ES.findIdx? (fun e => cmpF e (mn a b) (mx a b) == 0) with
  | some i => ((i : Int), true)
  | none => (0, false)
def topo_Find.f (l0 : List S47) (_l1 : List (List Int)) (_l2 : List Bool) (a b : Int) : Option (Int × Bool) := if Sorted47 l0 ∧ l0.length ≤ 1099511627776 then some (findE l0 a b) else none
theorem rd47 {ES : List S47} {i : Nat} (hi : i < ES.length) : rd_T47 ES (i : Int) = ES[i] := by simp [rd_T47, List.getD_eq_getElem?_getD, hi]
theorem find_of {ES : List S47} {a b : Int} {i : Nat} (h1 : ∀ k : Nat, k < i → cmpF (rd_T47 ES k) a b < 0) (h2 : ∀ k : Nat, i ≤ k → k < ES.length → 0 ≤ cmpF (rd_T47 ES k) a b) (hs : Sorted47 ES) (hi : i ≤ ES.length) :
    ES.findIdx? (fun e => cmpF e a b == 0) = if (decide (i < ES.length) && (cmpF (rd_T47 ES i) a b == 0)) then some i else none := by
  by_cases hin : i < ES.length
  · by_cases hz : cmpF (rd_T47 ES i) a b = 0
    · rw [decide_eq_true hin, beq_iff_eq.2 hz, Bool.and_self, if_pos rfl]
      rw [List.findIdx?_eq_some_iff_getElem]
      refine ⟨hin, by rw [← rd47 hin]; exact beq_iff_eq.2 hz, fun j hj => ?_⟩
      have := h1 j hj
      rw [rd47 (by omega)] at this
      simp
      omega
    · have hf : (cmpF (rd_T47 ES i) a b == 0) = false := by rw [beq_eq_false_iff_ne]; exact hz
      rw [hf, Bool.and_false, if_neg (by simp)]
      rw [List.findIdx?_eq_none_iff]
      intro x hx
      obtain ⟨k, hk, rfl⟩ := List.getElem_of_mem hx
      rw [beq_eq_false_iff_ne]
      intro hz2
      rcases Nat.lt_or_ge k i with h | h
      · have := h1 k h
        rw [rd47 hk] at this
        omega
      · rcases Nat.lt_or_ge i k with h3 | h3
        · -- between i and k: i is not less, not equal: greater; then k is not equal
          have hi0 := h2 i (Nat.le_refl _) hin
          have hs1 := List.pairwise_iff_getElem.1 hs i k hin hk h3
          rw [cmpF_zero] at hz2
          rw [rd47 hin] at hi0 hz
          have hneg : ¬ cmpF ES[i] a b < 0 := by omega
          rw [cmpF_neg] at hneg
          rw [cmpF_zero] at hz
          unfold ltE at hs1
          omega
        · obtain rfl : k = i := by omega
          rw [rd47 hk] at hz
          exact hz hz2
  · rw [decide_eq_false hin, Bool.false_and, if_neg (by simp)]
    rw [List.findIdx?_eq_none_iff]
    intro x hx
    obtain ⟨k, hk, rfl⟩ := List.getElem_of_mem hx
    have := h1 k (by omega)
    rw [rd47 hk] at this
    rw [beq_eq_false_iff_ne]
    omega
set_option maxHeartbeats 1000000 in
set_option maxRecDepth 100000 in
theorem topo_Find.calls (A0_0 : Option Addr) (c0_0 : Nat) (l0_0 : List S47) (A0_1 : Option Addr) (c0_1 : Nat) (l0_1 : List (List Int)) (A0_2 : Option Addr) (c0_2 : Nat) (l0_2 : List Bool) (a b r1 : Int) (r2 : Bool) (w : World)
    (hr0_0 : Kd.C k47 w A0_0 l0_0.length l0_0) (hc0_0 : l0_0.length ≤ c0_0) (hr0_1 : Kd.C (Kd.slice 3 (Kd.int .i64)) w A0_1 l0_1.length l0_1) (hc0_1 : l0_1.length ≤ c0_1) (hr0_2 : Kd.C Kd.bool w A0_2 l0_2.length l0_2) (hc0_2 : l0_2.length ≤ c0_2) (h : topo_Find.f l0_0 l0_1 l0_2 a b = some (r1, r2)) :
    Calls Try.prog 43 #[.agg #[.slice A0_0 l0_0.length c0_0, .slice A0_1 l0_1.length c0_1, .slice A0_2 l0_2.length c0_2], .int .i64 a, .int .i64 b] w fun e w' => e = .returned (.tuple #[.int .i64 r1, .bool r2]) ∧ Below w.heap.size w w' := by
  unfold topo_Find.f at h
  by_cases hs : Sorted47 l0_0 ∧ l0_0.length ≤ 1099511627776
  · rw [if_pos hs] at h
    have hf : findE l0_0 a b = (r1, r2) := Option.some.inj h
    have HF := Aside0.mk hf
    have HS := Aside0.mk hs
    have HC := Aside0.mk hr0_0
    clear h hf hs hr0_0 hr0_1 hr0_2
    obtain ⟨n0, hn0⟩ : ∃ n0, l0_0.length = n0 := ⟨_, rfl⟩
    have HBS := Aside0.mk (fun X (hX : Below w.heap.size w X) => bs_calls X A0_0 c0_0 l0_0 (mn a b) (mx a b) (Kd.C_below HC.out hX) HS.out.1 HS.out.2)
    have e1 : Below w.heap.size w ((w.alloc (.cells #[.slice A0_0 l0_0.length c0_0, .slice A0_1 l0_1.length c0_1, .slice A0_2 l0_2.length c0_2] 36)).alloc (.cells #[.int .i64 (mn a b), .int .i64 (mx a b)] 115)) := below_alloc (below_alloc (Below.refl _ w) _) _
    have HE := Aside0.mk e1
    clear e1 hn0
    go_enter Try.func43, Try.ntmps43
    go_wp2_with fail
    refine (HBS.out _ HE.out).mono ?_
    rintro e w2 ⟨i, r, rfl, h1, h2, h3, hr, hb⟩
    have hfind := find_of h2 h3 HS.out.1 h1
    rw [← hr] at hfind
    have HB := Aside0.mk (below_then HE.out HE.out.size hb)
    have HFI := Aside0.mk hfind
    clear h2 h3 hr hb hfind
    cases r with
    | true =>
      have hq : findE l0_0 a b = ((i : Int), true) := by unfold findE; rw [HFI.out]; rfl
      rw [HF.out] at hq
      injection hq with e1 e2
      subst e1 e2
      go_wp2_with fail
      refine bodyPost_ret (results_tmp2 rfl _ _ _) rfl ?_
      exact ⟨rfl, HB.out⟩
    | false =>
      have hq : findE l0_0 a b = ((0 : Int), false) := by unfold findE; rw [HFI.out]; rfl
      rw [HF.out] at hq
      injection hq with e1 e2
      subst e1 e2
      go_wp2_with fail
      refine bodyPost_ret (results_tmp2 rfl _ _ _) rfl ?_
      exact ⟨rfl, HB.out⟩
  · rw [if_neg hs] at h
    cases h
end Go.Proofs.Ytnjdjfengoaleaa.MSub
namespace Go.Proofs.Ytnjdjfengoaleaa.MSub
open Go.RowKit Go.Proofs.YtnjdjfengoaleaaW.PrintWords Go.Proofs.YtnjdjfengoaleaaW.PrintLast Go.Proofs.YtnjdjfengoaleaaW.PrintMore
open Go.Proofs.Ytnjdjfengoaleaa.Relv
set_option linter.unusedVariables false
set_option linter.unusedSimpArgs false
def quadOf (n m : Nat) (k : Int) (ES : List S47) (fc : List Int) (i : Nat) : List Int :=
  [rd fc i, n + (findE ES (rd fc i) (rd fc ((i + 1) % fc.length : Nat))).1, n + m + k, n + (findE ES (rd fc i) (rd fc ((i + fc.length - 1) % fc.length : Nat))).1]
def partsOf (n m : Nat) (k : Int) (ES : List S47) (fc : List Int) : List (List Int) := (List.range fc.length).map (quadOf n m k ES fc)
theorem findE_in (ES : List S47) (a b : Int) : 0 ≤ (findE ES a b).1 ∧ (findE ES a b).1 ≤ ES.length := by
  unfold findE
  split
  · rename_i i h
    obtain ⟨h1, _, _⟩ := List.findIdx?_eq_some_iff_getElem.1 h
    simp only
    omega
  · simp only
    omega
theorem fourR {W : World} {b base : Nat} {a0 a1 a2 a3 : Int} {ok : Nat → Prop} (h : W.heap[b]? = some (.cells #[.int .i64 a0, .int .i64 a1, .int .i64 a2, .int .i64 a3] 3 (0, 0))) (hb : base ≤ b) (hok : ok b) : Kd.R (Kd.int .i64) 3 W base ok (.slice (some ⟨b, 0, none⟩) 4 4) [a0, a1, a2, a3] :=
  Kd.R_of_own (enc := Value.int .i64) (h1 := fun _ => rfl) ⟨rfl, .inr ⟨b, 4, _, rfl, hb, h, by simp, by decide, rfl, rfl⟩⟩ (fun k hk => by
    have : b = k := by simpa [Value.ownBlock] using hk
    exact this ▸ hok)
set_option maxHeartbeats 1000000 in
set_option maxRecDepth 100000 in
theorem parts_calls (w : World) (fb : Nat) (D : Fin_) (A : Option Addr) (c : Nat) (k : Int) (fc : List Int) (hD : FinerR w fb D) (hfc : Kd.C (Kd.int .i64) w A fc.length fc) (hs : Sorted47 D.ES) (hn : D.V.length ≤ 1099511627776) (hm : D.ES.length ≤ 1099511627776) (hk0 : 0 ≤ k) (hk1 : k ≤ 1099511627776) (hl : fc.length ≤ 1099511627776) :
    Calls Try.prog 38 #[.pointer (some ⟨fb, 0, none⟩), .int .i64 k, .slice A fc.length c] w fun e w' => ∃ v0 : Value, e = .returned v0 ∧ Kd.R (Kd.slice 3 (Kd.int .i64)) 29 w' w.heap.size (fun _ => True) v0 (partsOf D.V.length D.ES.length k D.ES fc) ∧ Below w.heap.size w w' := by
  have HD := Aside0.mk hD
  have HC := Aside0.mk hfc
  have HS := Aside0.mk hs
  have hf0 := (hD.cell 0).trans (rfl : _ = some (Value.slice D.A0 D.V.length D.c0))
  have hf3 := (hD.cell 3).trans (rfl : _ = some (Value.slice D.A3 D.ES.length D.c3))
  have hf4 := (hD.cell 4).trans (rfl : _ = some (Value.slice D.A4 D.FN.length D.c4))
  have hf5 := (hD.cell 5).trans (rfl : _ = some (Value.slice D.A5 D.RD.length D.c5))
  have HF0 := Aside0.mk hf0
  have HF3 := Aside0.mk hf3
  have HF4 := Aside0.mk hf4
  have HF5 := Aside0.mk hf5
  clear hD hfc hs hf3 hf4 hf5
  go_enter Try.func38, Try.ntmps38
  go_wp2_with fail
  clear hf0
  go_loopw [8, 23] (fun v8 v23 wr => ∃ j : Nat, j ≤ fc.length ∧ v23 = .int .i64 j ∧ Aside0 (Kd.R (Kd.slice 3 (Kd.int .i64)) 29 wr w.heap.size (fun _ => True) v8 ((List.range j).map (quadOf D.V.length D.ES.length k D.ES fc))) ∧ Aside0 (Below w.heap.size w wr))
    (fun _ v23 _ => fc.length - (intOf v23).toNat)
  case atStart => exact ⟨0, Nat.zero_le _, rfl, ⟨Kd.R_nil _ _ _ _ _⟩, ⟨Below.refl _ _⟩⟩
  case round =>
    obtain ⟨j, hj, rfl, HO, HB⟩ := hrel
    by_cases hlt : j < fc.length
    · obtain ⟨i1, hi1⟩ : ∃ i1, (j + 1) % fc.length = i1 := ⟨_, rfl⟩
      obtain ⟨i2, hi2⟩ : ∃ i2, (j + fc.length - 1) % fc.length = i2 := ⟨_, rfl⟩
      have hi1l : i1 < fc.length := by rw [← hi1]; exact Nat.mod_lt _ (by omega)
      have hi2l : i2 < fc.length := by rw [← hi2]; exact Nat.mod_lt _ (by omega)
      obtain ⟨a0, ha0⟩ : ∃ a0, rd fc (j : Int) = a0 := ⟨_, rfl⟩
      obtain ⟨a1, ha1⟩ : ∃ a1, rd fc (i1 : Int) = a1 := ⟨_, rfl⟩
      obtain ⟨a2, ha2⟩ : ∃ a2, rd fc (i2 : Int) = a2 := ⟨_, rfl⟩
      obtain ⟨q1, hq1⟩ : ∃ q1, findE D.ES a0 a1 = q1 := ⟨_, rfl⟩
      obtain ⟨q2, hq2⟩ : ∃ q2, findE D.ES a0 a2 = q2 := ⟨_, rfl⟩
      obtain ⟨q1n, q1b⟩ := q1
      obtain ⟨q2n, q2b⟩ := q2
      have hb1 := findE_in D.ES a0 a1
      have hb2 := findE_in D.ES a0 a2
      rw [hq1] at hb1
      rw [hq2] at hb2
      simp only at hb1 hb2
      have HQ : Aside0 (quadOf D.V.length D.ES.length k D.ES fc j = [a0, D.V.length + q1n, D.V.length + D.ES.length + k, D.V.length + q2n]) := ⟨by
        unfold quadOf
        rw [hi1, hi2, ha0, ha1, ha2, hq1, hq2]⟩
      have HF1 := Aside0.mk (fun X (hX : FinerR X fb D) => topo_Find.calls D.A3 D.c3 D.ES D.A4 D.c4 D.FN D.A5 D.c5 D.RD a0 a1 q1n q1b X hX.es hX.c3 hX.fn hX.c4 hX.rd hX.c5 (by unfold topo_Find.f; rw [if_pos ⟨HS.out, hm⟩, hq1]))
      have HF2 := Aside0.mk (fun X (hX : FinerR X fb D) => topo_Find.calls D.A3 D.c3 D.ES D.A4 D.c4 D.FN D.A5 D.c5 D.RD a0 a2 q2n q2b X hX.es hX.c3 hX.fn hX.c4 hX.rd hX.c5 (by unfold topo_Find.f; rw [if_pos ⟨HS.out, hm⟩, hq2]))
      obtain ⟨ad0, e', hc0⟩ := Kd.at_int HC.out j (by omega) (by omega)
      cases e'
      obtain ⟨ad1, e', hc1⟩ := Kd.at_int HC.out i1 (by omega) (by omega)
      cases e'
      obtain ⟨ad2, e', hc2⟩ := Kd.at_int HC.out i2 (by omega) (by omega)
      cases e'
      rw [ha0, Int.toNat_natCast] at hc0
      rw [ha1, Int.toNat_natCast] at hc1
      rw [ha2, Int.toNat_natCast] at hc2
      have HC1 := Aside0.mk hc1
      have HC2 := Aside0.mk hc2
      have hcj := pw_cell_below HB.out hc0
      have hr1 : Int.tmod ((j : Int) + 1) (fc.length : Int) = (i1 : Int) := by
        rw [← hi1, Int.tmod_eq_emod_of_nonneg (by omega), Int.natCast_emod]
        rfl
      have hw1 : IntKind.i64.wrap ((j : Int) + 1) = (j : Int) + 1 := by rw [i64_w, w64_in _ (by omega) (by omega)]
      have hr2 : Int.tmod ((j : Int) + fc.length - 1) (fc.length : Int) = (i2 : Int) := by
        rw [← hi2, Int.tmod_eq_emod_of_nonneg (by omega), Int.natCast_emod]
        congr 1
        omega
      have hw2 : IntKind.i64.wrap ((j : Int) + fc.length) = (j : Int) + fc.length := by rw [i64_w, w64_in _ (by omega) (by omega)]
      have hw3 : IntKind.i64.wrap ((j : Int) + fc.length - 1) = (j : Int) + fc.length - 1 := by rw [i64_w, w64_in _ (by omega) (by omega)]
      have hz0 : ¬ fc = [] := fun e => by rw [e] at hlt; simp at hlt
      clear hc0 hc1 hc2 hi1 hi2 ha0 ha1 ha2 hq1 hq2
      have HR1 := Aside0.mk hr1
      have HR2 := Aside0.mk hr2
      have HW1 := Aside0.mk hw1
      have HW2 := Aside0.mk hw2
      have HW3 := Aside0.mk hw3
      clear hr1 hr2 hw1 hw2 hw3
      go_wp2_with fail
      have hr1 := HR1.out
      have hw1 := HW1.out
      have hd1 : (i1 : Int) < (fc.length : Int) := by omega
      have hd2 : (0 : Int) ≤ (i1 : Int) := by omega
      refine start_ (n := 19) (S := (fun w' => w'.cell? ⟨fb, 3, none⟩ = some (.slice D.A3 D.ES.length D.c3) ∧ w'.cell? ⟨fb, 4, none⟩ = some (.slice D.A4 D.FN.length D.c4) ∧ w'.cell? ⟨fb, 5, none⟩ = some (.slice D.A5 D.RD.length D.c5) ∧ w'.cell? (ad0.add i1) = some (.int .i64 a1))) (ds := []) #[false, false, false, false, false, false, false, false, false, false, false, false, false, false, false, false, false, false, false] (by kernel_rfl) rfl rfl ⟨pw_cell_below (below_drew HB.out) HF3.out, pw_cell_below (below_drew HB.out) HF4.out, pw_cell_below (below_drew HB.out) HF5.out, pw_cell_below (below_drew HB.out) HC1.out⟩ (fun hHeld => ?_)
      have HB1 := Aside0.mk (below_drew HB.out)
      have HO1 := Aside0.mk (Kd.R_drew HO.out)
      have HX : Aside0 (Below wr.heap.size wr wr.drew) := ⟨below_drew (Below.refl _ _)⟩
      generalize wr.drew = W1 at hHeld HB1 HO1 HX ⊢
      refine pure_ (i := 0) (N := some 29) (v := ?_) (a' := ?_) #[true, false, false, false, false, false, false, false, false, false, false, false, false, false, false, false, false, false, false] rfl rfl (by kernel_rfl) (fun _ _ _ h => h) (Or.inl ⟨by rfl, ?_⟩) ?_ ?_
      rotate_left
      · (intro w'; go_simp; with_reducible rfl)
      rotate_left
      · (simp only [Act.put, List.setIfInBounds_toArray, List.set_cons_zero, List.set_cons_succ, i64_w, i32_w]; rfl)
      refine pure_ (i := 1) (N := some 30) (v := ?_) (a' := ?_) #[true, true, false, false, false, false, false, false, false, false, false, false, false, false, false, false, false, false, false] rfl rfl (by kernel_rfl) (fun _ _ _ h => h) (Or.inl ⟨by rfl, ?_⟩) ?_ ?_
      rotate_left
      · (intro w'; go_simp; with_reducible rfl)
      rotate_left
      · (simp only [Act.put, List.setIfInBounds_toArray, List.set_cons_zero, List.set_cons_succ, i64_w, i32_w]; rfl)
      refine pure_ (i := 2) (N := some 31) (v := ?_) (a' := ?_) #[true, true, true, false, false, false, false, false, false, false, false, false, false, false, false, false, false, false, false] rfl rfl (by kernel_rfl) (fun _ _ _ h => h) (Or.inl ⟨by rfl, ?_⟩) ?_ ?_
      rotate_left
      · (intro w'; go_simp; with_reducible rfl)
      rotate_left
      · (simp only [Act.put, List.setIfInBounds_toArray, List.set_cons_zero, List.set_cons_succ, i64_w, i32_w]; rfl)
      refine take_ (i := 3) (N := some 32) (v := ?_) (a' := ?_) #[true, true, true, true, false, false, false, false, false, false, false, false, false, false, false, false, false, false, false] rfl rfl (by kernel_rfl) (fun _ _ _ h => h) (Or.inl ⟨by rfl, ?_⟩) (by assumption) ?_ ?_
      rotate_left
      · (intro w' hSw; (try dsimp only at hSw); go_split_ands; go_simp; with_reducible rfl)
      rotate_left
      · (simp only [Act.put, List.setIfInBounds_toArray, List.set_cons_zero, List.set_cons_succ, i64_w, i32_w]; rfl)
      refine pure_ (i := 4) (N := some 33) (v := ?_) (a' := ?_) #[true, true, true, true, true, false, false, false, false, false, false, false, false, false, false, false, false, false, false] rfl rfl (by kernel_rfl) (fun _ _ _ h => h) (Or.inl ⟨by rfl, ?_⟩) ?_ ?_
      rotate_left
      · (intro w'; go_simp; with_reducible rfl)
      rotate_left
      · (simp only [Act.put, List.setIfInBounds_toArray, List.set_cons_zero, List.set_cons_succ, i64_w, i32_w]; rfl)
      refine pure_ (i := 5) (N := some 34) (v := ?_) (a' := ?_) #[true, true, true, true, true, true, false, false, false, false, false, false, false, false, false, false, false, false, false] rfl rfl (by kernel_rfl) (fun _ _ _ h => h) (Or.inl ⟨by rfl, ?_⟩) ?_ ?_
      rotate_left
      · (intro w'; go_simp; with_reducible rfl)
      rotate_left
      · (simp only [Act.put, List.setIfInBounds_toArray, List.set_cons_zero, List.set_cons_succ, i64_w, i32_w]; rfl)
      refine pure_ (i := 6) (N := some 35) (v := ?_) (a' := ?_) #[true, true, true, true, true, true, true, false, false, false, false, false, false, false, false, false, false, false, false] rfl rfl (by kernel_rfl) (fun _ _ _ h => h) (Or.inl ⟨by rfl, ?_⟩) ?_ ?_
      rotate_left
      · (intro w'; go_simp; with_reducible rfl)
      rotate_left
      · (simp only [Act.put, List.setIfInBounds_toArray, List.set_cons_zero, List.set_cons_succ, i64_w, i32_w]; rfl)
      refine pure_ (i := 7) (N := some 36) (v := ?_) (a' := ?_) #[true, true, true, true, true, true, true, true, false, false, false, false, false, false, false, false, false, false, false] rfl rfl (by kernel_rfl) (fun _ _ _ h => h) (Or.inl ⟨by rfl, ?_⟩) ?_ ?_
      rotate_left
      · (intro w'; go_simp; with_reducible rfl)
      rotate_left
      · (simp only [Act.put, List.setIfInBounds_toArray, List.set_cons_zero, List.set_cons_succ, i64_w, i32_w]; rfl)
      refine pure_ (i := 8) (N := some 37) (v := ?_) (a' := ?_) #[true, true, true, true, true, true, true, true, true, false, false, false, false, false, false, false, false, false, false] rfl rfl (by kernel_rfl) (fun _ _ _ h => h) (Or.inl ⟨by rfl, ?_⟩) ?_ ?_
      rotate_left
      · (intro w'; go_simp; with_reducible rfl)
      rotate_left
      · (simp only [Act.put, List.setIfInBounds_toArray, List.set_cons_zero, List.set_cons_succ, i64_w, i32_w]; rfl)
      refine pure_ (i := 9) (N := some 38) (v := ?_) (a' := ?_) #[true, true, true, true, true, true, true, true, true, true, false, false, false, false, false, false, false, false, false] rfl rfl (by kernel_rfl) (fun _ _ _ h => h) (Or.inl ⟨by rfl, ?_⟩) ?_ ?_
      rotate_left
      · (intro w'; go_simp; with_reducible rfl)
      rotate_left
      · (simp only [Act.put, List.setIfInBounds_toArray, List.set_cons_zero, List.set_cons_succ, i64_w, i32_w]; rfl)
      refine pure_ (i := 10) (N := some 39) (v := ?_) (a' := ?_) #[true, true, true, true, true, true, true, true, true, true, true, false, false, false, false, false, false, false, false] rfl rfl (by kernel_rfl) (fun _ _ _ h => h) (Or.inl ⟨by rfl, ?_⟩) ?_ ?_
      rotate_left
      · (intro w'; go_simp; with_reducible rfl)
      rotate_left
      · (simp only [Act.put, List.setIfInBounds_toArray, List.set_cons_zero, List.set_cons_succ, i64_w, i32_w]; rfl)
      refine pure_ (i := 11) (N := some 40) (v := ?_) (a' := ?_) #[true, true, true, true, true, true, true, true, true, true, true, true, false, false, false, false, false, false, false] rfl rfl (by kernel_rfl) (fun _ _ _ h => h) (Or.inl ⟨by rfl, ?_⟩) ?_ ?_
      rotate_left
      · (intro w'; go_simp; with_reducible rfl)
      rotate_left
      · (simp only [Act.put, List.setIfInBounds_toArray, List.set_cons_zero, List.set_cons_succ, i64_w, i32_w]; rfl)
      refine take_ (i := 12) (N := some 41) (v := ?_) (a' := ?_) #[true, true, true, true, true, true, true, true, true, true, true, true, true, false, false, false, false, false, false] rfl rfl (by kernel_rfl) (fun _ _ _ h => h) (Or.inl ⟨by rfl, ?_⟩) (by assumption) ?_ ?_
      rotate_left
      · (intro w' hSw; (try dsimp only at hSw); go_split_ands; go_simp; with_reducible rfl)
      rotate_left
      · (simp only [Act.put, List.setIfInBounds_toArray, List.set_cons_zero, List.set_cons_succ, i64_w, i32_w]; rfl)
      refine one_ (i := 13) (N := some 42) #[true, true, true, true, true, true, true, true, true, true, true, true, true, true, false, false, false, false, false] rfl rfl (by kernel_rfl) (by decide) (fun K hK => ?_)
      have e1 : Below wr.heap.size wr W1 := HX.out
      refine goes_ Try.func43 (by kernel_rfl) rfl #[.agg #[.slice D.A3 D.ES.length D.c3, .slice D.A4 D.FN.length D.c4, .slice D.A5 D.RD.length D.c5], .int .i64 a0, .int .i64 a1] (by rfl) rfl rfl (by (try simp only [List.map_toArray, List.map_cons, List.map_nil]); rfl) ?_
      refine (HF1.out _ (HD.out.below HB1.out)).mono ?_
      rintro e W2 ⟨rfl, hb2⟩
      refine ⟨_, rfl, ?_⟩
      have HB2 := Aside0.mk (below_then HB1.out HB1.out.size hb2)
      have HO2 := Aside0.mk (Kd.R_below HO1.out hb2)
      clear hb2 e1 HX HB1 HO1 hHeld
      refine hK.out _ _ ⟨pw_cell_below HB2.out HF3.out, pw_cell_below HB2.out HF4.out, pw_cell_below HB2.out HF5.out, pw_cell_below HB2.out HC1.out⟩ (fun hHeld => ?_)
      clear hK K
      refine norm_ (a' := ?_) ?_ ?_
      rotate_left
      · (simp only [Act.put, List.setIfInBounds_toArray, List.set_cons_zero, List.set_cons_succ, i64_w, i32_w]; rfl)
      refine pure_ (i := 14) (N := some 28) (v := ?_) (a' := ?_) #[true, true, true, true, true, true, true, true, true, true, true, true, true, true, true, false, false, false, false] rfl rfl (by kernel_rfl) (fun _ _ _ h => h) (Or.inl ⟨by rfl, ?_⟩) ?_ ?_
      rotate_left
      · (intro w'; go_simp; with_reducible rfl)
      rotate_left
      · (simp only [Act.put, List.setIfInBounds_toArray, List.set_cons_zero, List.set_cons_succ, i64_w, i32_w]; rfl)
      refine pure_ (i := 15) (N := some 43) (v := ?_) (a' := ?_) #[true, true, true, true, true, true, true, true, true, true, true, true, true, true, true, true, false, false, false] rfl rfl (by kernel_rfl) (fun _ _ _ h => h) (Or.inl ⟨by rfl, ?_⟩) ?_ ?_
      rotate_left
      · (intro w'; go_simp; with_reducible rfl)
      rotate_left
      · (simp only [Act.put, List.setIfInBounds_toArray, List.set_cons_zero, List.set_cons_succ, i64_w, i32_w]; rfl)
      refine pure_ (i := 16) (N := some 44) (v := ?_) (a' := ?_) #[true, true, true, true, true, true, true, true, true, true, true, true, true, true, true, true, true, false, false] rfl rfl (by kernel_rfl) (fun _ _ _ h => h) (Or.inl ⟨by rfl, ?_⟩) ?_ ?_
      rotate_left
      · (intro w'; go_simp; with_reducible rfl)
      rotate_left
      · (simp only [Act.put, List.setIfInBounds_toArray, List.set_cons_zero, List.set_cons_succ, i64_w, i32_w]; rfl)
      refine pure_ (i := 17) (N := some 11) (v := ?_) (a' := ?_) #[true, true, true, true, true, true, true, true, true, true, true, true, true, true, true, true, true, true, false] rfl rfl (by kernel_rfl) (fun _ _ _ h => h) (Or.inl ⟨by rfl, ?_⟩) ?_ ?_
      rotate_left
      · (intro w'; go_simp; with_reducible rfl)
      rotate_left
      · (simp only [Act.put, List.setIfInBounds_toArray, List.set_cons_zero, List.set_cons_succ, i64_w, i32_w]; rfl)
      refine pure_ (i := 18) (N := some 12) (v := ?_) (a' := ?_) #[true, true, true, true, true, true, true, true, true, true, true, true, true, true, true, true, true, true, true] rfl rfl (by kernel_rfl) (fun _ _ _ h => h) (Or.inl ⟨by rfl, ?_⟩) ?_ ?_
      rotate_left
      · (intro w'; go_simp; with_reducible rfl)
      rotate_left
      · (simp only [Act.put, List.setIfInBounds_toArray, List.set_cons_zero, List.set_cons_succ, i64_w, i32_w]; rfl)
      refine done_ (by kernel_rfl) ?_
      clear hHeld hr1 hw1 hd1 hd2
      go_wp2_with fail
      have hr2 := HR2.out
      have hw2 := HW2.out
      have hw3 := HW3.out
      have hd1 : (i2 : Int) < (fc.length : Int) := by omega
      have hd2 : (0 : Int) ≤ (i2 : Int) := by omega
      refine start_ (n := 22) (S := (fun w' => w'.cell? ⟨fb, 3, none⟩ = some (.slice D.A3 D.ES.length D.c3) ∧ w'.cell? ⟨fb, 4, none⟩ = some (.slice D.A4 D.FN.length D.c4) ∧ w'.cell? ⟨fb, 5, none⟩ = some (.slice D.A5 D.RD.length D.c5) ∧ w'.cell? (ad0.add i2) = some (.int .i64 a2))) (ds := []) #[false, false, false, false, false, false, false, false, false, false, false, false, false, false, false, false, false, false, false, false, false, false] (by kernel_rfl) rfl rfl ⟨pw_cell_below (below_drew HB2.out) HF3.out, pw_cell_below (below_drew HB2.out) HF4.out, pw_cell_below (below_drew HB2.out) HF5.out, pw_cell_below (below_drew HB2.out) HC2.out⟩ (fun hHeld => ?_)
      have HB3 := Aside0.mk (below_drew HB2.out)
      have HO3 := Aside0.mk (Kd.R_drew HO2.out)
      generalize W2.drew = W3 at hHeld HB3 HO3 ⊢
      refine pure_ (i := 0) (N := some 46) (v := ?_) (a' := ?_) #[true, false, false, false, false, false, false, false, false, false, false, false, false, false, false, false, false, false, false, false, false, false] rfl rfl (by kernel_rfl) (fun _ _ _ h => h) (Or.inl ⟨by rfl, ?_⟩) ?_ ?_
      rotate_left
      · (intro w'; go_simp; with_reducible rfl)
      rotate_left
      · (simp only [Act.put, List.setIfInBounds_toArray, List.set_cons_zero, List.set_cons_succ, i64_w, i32_w]; rfl)
      refine pure_ (i := 1) (N := some 47) (v := ?_) (a' := ?_) #[true, true, false, false, false, false, false, false, false, false, false, false, false, false, false, false, false, false, false, false, false, false] rfl rfl (by kernel_rfl) (fun _ _ _ h => h) (Or.inl ⟨by rfl, ?_⟩) ?_ ?_
      rotate_left
      · (intro w'; go_simp; with_reducible rfl)
      rotate_left
      · (simp only [Act.put, List.setIfInBounds_toArray, List.set_cons_zero, List.set_cons_succ, i64_w, i32_w]; rfl)
      refine pure_ (i := 2) (N := some 48) (v := ?_) (a' := ?_) #[true, true, true, false, false, false, false, false, false, false, false, false, false, false, false, false, false, false, false, false, false, false] rfl rfl (by kernel_rfl) (fun _ _ _ h => h) (Or.inl ⟨by rfl, ?_⟩) ?_ ?_
      rotate_left
      · (intro w'; go_simp; with_reducible rfl)
      rotate_left
      · (simp only [Act.put, List.setIfInBounds_toArray, List.set_cons_zero, List.set_cons_succ, i64_w, i32_w]; rfl)
      refine take_ (i := 3) (N := some 49) (v := ?_) (a' := ?_) #[true, true, true, true, false, false, false, false, false, false, false, false, false, false, false, false, false, false, false, false, false, false] rfl rfl (by kernel_rfl) (fun _ _ _ h => h) (Or.inl ⟨by rfl, ?_⟩) (by assumption) ?_ ?_
      rotate_left
      · (intro w' hSw; (try dsimp only at hSw); go_split_ands; go_simp; with_reducible rfl)
      rotate_left
      · (simp only [Act.put, List.setIfInBounds_toArray, List.set_cons_zero, List.set_cons_succ, i64_w, i32_w]; rfl)
      refine pure_ (i := 4) (N := some 50) (v := ?_) (a' := ?_) #[true, true, true, true, true, false, false, false, false, false, false, false, false, false, false, false, false, false, false, false, false, false] rfl rfl (by kernel_rfl) (fun _ _ _ h => h) (Or.inl ⟨by rfl, ?_⟩) ?_ ?_
      rotate_left
      · (intro w'; go_simp; with_reducible rfl)
      rotate_left
      · (simp only [Act.put, List.setIfInBounds_toArray, List.set_cons_zero, List.set_cons_succ, i64_w, i32_w]; rfl)
      refine pure_ (i := 5) (N := some 51) (v := ?_) (a' := ?_) #[true, true, true, true, true, true, false, false, false, false, false, false, false, false, false, false, false, false, false, false, false, false] rfl rfl (by kernel_rfl) (fun _ _ _ h => h) (Or.inl ⟨by rfl, ?_⟩) ?_ ?_
      rotate_left
      · (intro w'; go_simp; with_reducible rfl)
      rotate_left
      · (simp only [Act.put, List.setIfInBounds_toArray, List.set_cons_zero, List.set_cons_succ, i64_w, i32_w]; rfl)
      refine pure_ (i := 6) (N := some 52) (v := ?_) (a' := ?_) #[true, true, true, true, true, true, true, false, false, false, false, false, false, false, false, false, false, false, false, false, false, false] rfl rfl (by kernel_rfl) (fun _ _ _ h => h) (Or.inl ⟨by rfl, ?_⟩) ?_ ?_
      rotate_left
      · (intro w'; go_simp; with_reducible rfl)
      rotate_left
      · (simp only [Act.put, List.setIfInBounds_toArray, List.set_cons_zero, List.set_cons_succ, i64_w, i32_w]; rfl)
      refine pure_ (i := 7) (N := some 53) (v := ?_) (a' := ?_) #[true, true, true, true, true, true, true, true, false, false, false, false, false, false, false, false, false, false, false, false, false, false] rfl rfl (by kernel_rfl) (fun _ _ _ h => h) (Or.inl ⟨by rfl, ?_⟩) ?_ ?_
      rotate_left
      · (intro w'; go_simp; with_reducible rfl)
      rotate_left
      · (simp only [Act.put, List.setIfInBounds_toArray, List.set_cons_zero, List.set_cons_succ, i64_w, i32_w]; rfl)
      refine pure_ (i := 8) (N := some 54) (v := ?_) (a' := ?_) #[true, true, true, true, true, true, true, true, true, false, false, false, false, false, false, false, false, false, false, false, false, false] rfl rfl (by kernel_rfl) (fun _ _ _ h => h) (Or.inl ⟨by rfl, ?_⟩) ?_ ?_
      rotate_left
      · (intro w'; go_simp; with_reducible rfl)
      rotate_left
      · (simp only [Act.put, List.setIfInBounds_toArray, List.set_cons_zero, List.set_cons_succ, i64_w, i32_w]; rfl)
      refine pure_ (i := 9) (N := some 55) (v := ?_) (a' := ?_) #[true, true, true, true, true, true, true, true, true, true, false, false, false, false, false, false, false, false, false, false, false, false] rfl rfl (by kernel_rfl) (fun _ _ _ h => h) (Or.inl ⟨by rfl, ?_⟩) ?_ ?_
      rotate_left
      · (intro w'; go_simp; with_reducible rfl)
      rotate_left
      · (simp only [Act.put, List.setIfInBounds_toArray, List.set_cons_zero, List.set_cons_succ, i64_w, i32_w]; rfl)
      refine pure_ (i := 10) (N := some 56) (v := ?_) (a' := ?_) #[true, true, true, true, true, true, true, true, true, true, true, false, false, false, false, false, false, false, false, false, false, false] rfl rfl (by kernel_rfl) (fun _ _ _ h => h) (Or.inl ⟨by rfl, ?_⟩) ?_ ?_
      rotate_left
      · (intro w'; go_simp; with_reducible rfl)
      rotate_left
      · (simp only [Act.put, List.setIfInBounds_toArray, List.set_cons_zero, List.set_cons_succ, i64_w, i32_w]; rfl)
      refine pure_ (i := 11) (N := some 57) (v := ?_) (a' := ?_) #[true, true, true, true, true, true, true, true, true, true, true, true, false, false, false, false, false, false, false, false, false, false] rfl rfl (by kernel_rfl) (fun _ _ _ h => h) (Or.inl ⟨by rfl, ?_⟩) ?_ ?_
      rotate_left
      · (intro w'; go_simp; with_reducible rfl)
      rotate_left
      · (simp only [Act.put, List.setIfInBounds_toArray, List.set_cons_zero, List.set_cons_succ, i64_w, i32_w]; rfl)
      refine pure_ (i := 12) (N := some 58) (v := ?_) (a' := ?_) #[true, true, true, true, true, true, true, true, true, true, true, true, true, false, false, false, false, false, false, false, false, false] rfl rfl (by kernel_rfl) (fun _ _ _ h => h) (Or.inl ⟨by rfl, ?_⟩) ?_ ?_
      rotate_left
      · (intro w'; go_simp; with_reducible rfl)
      rotate_left
      · (simp only [Act.put, List.setIfInBounds_toArray, List.set_cons_zero, List.set_cons_succ, i64_w, i32_w]; rfl)
      refine pure_ (i := 13) (N := some 59) (v := ?_) (a' := ?_) #[true, true, true, true, true, true, true, true, true, true, true, true, true, true, false, false, false, false, false, false, false, false] rfl rfl (by kernel_rfl) (fun _ _ _ h => h) (Or.inl ⟨by rfl, ?_⟩) ?_ ?_
      rotate_left
      · (intro w'; go_simp; with_reducible rfl)
      rotate_left
      · (simp only [Act.put, List.setIfInBounds_toArray, List.set_cons_zero, List.set_cons_succ, i64_w, i32_w]; rfl)
      refine pure_ (i := 14) (N := some 60) (v := ?_) (a' := ?_) #[true, true, true, true, true, true, true, true, true, true, true, true, true, true, true, false, false, false, false, false, false, false] rfl rfl (by kernel_rfl) (fun _ _ _ h => h) (Or.inl ⟨by rfl, ?_⟩) ?_ ?_
      rotate_left
      · (intro w'; go_simp; with_reducible rfl)
      rotate_left
      · (simp only [Act.put, List.setIfInBounds_toArray, List.set_cons_zero, List.set_cons_succ, i64_w, i32_w]; rfl)
      refine take_ (i := 15) (N := some 61) (v := ?_) (a' := ?_) #[true, true, true, true, true, true, true, true, true, true, true, true, true, true, true, true, false, false, false, false, false, false] rfl rfl (by kernel_rfl) (fun _ _ _ h => h) (Or.inl ⟨by rfl, ?_⟩) (by assumption) ?_ ?_
      rotate_left
      · (intro w' hSw; (try dsimp only at hSw); go_split_ands; go_simp; with_reducible rfl)
      rotate_left
      · (simp only [Act.put, List.setIfInBounds_toArray, List.set_cons_zero, List.set_cons_succ, i64_w, i32_w]; rfl)
      refine one_ (i := 16) (N := some 62) #[true, true, true, true, true, true, true, true, true, true, true, true, true, true, true, true, true, false, false, false, false, false] rfl rfl (by kernel_rfl) (by decide) (fun K hK => ?_)
      refine goes_ Try.func43 (by kernel_rfl) rfl #[.agg #[.slice D.A3 D.ES.length D.c3, .slice D.A4 D.FN.length D.c4, .slice D.A5 D.RD.length D.c5], .int .i64 a0, .int .i64 a2] (by rfl) rfl rfl (by (try simp only [List.map_toArray, List.map_cons, List.map_nil]); rfl) ?_
      refine (HF2.out _ (HD.out.below HB3.out)).mono ?_
      rintro e W4 ⟨rfl, hb4⟩
      refine ⟨_, rfl, ?_⟩
      have HB4 := Aside0.mk (below_then HB3.out HB3.out.size hb4)
      have HO4 := Aside0.mk (Kd.R_below HO3.out hb4)
      clear hb4 HB2 HO2 HB3 HO3 hHeld
      refine hK.out _ _ ⟨pw_cell_below HB4.out HF3.out, pw_cell_below HB4.out HF4.out, pw_cell_below HB4.out HF5.out, pw_cell_below HB4.out HC2.out⟩ (fun hHeld => ?_)
      clear hK K
      refine norm_ (a' := ?_) ?_ ?_
      rotate_left
      · (simp only [Act.put, List.setIfInBounds_toArray, List.set_cons_zero, List.set_cons_succ, i64_w, i32_w]; rfl)
      refine pure_ (i := 17) (N := some 45) (v := ?_) (a' := ?_) #[true, true, true, true, true, true, true, true, true, true, true, true, true, true, true, true, true, true, false, false, false, false] rfl rfl (by kernel_rfl) (fun _ _ _ h => h) (Or.inl ⟨by rfl, ?_⟩) ?_ ?_
      rotate_left
      · (intro w'; go_simp; with_reducible rfl)
      rotate_left
      · (simp only [Act.put, List.setIfInBounds_toArray, List.set_cons_zero, List.set_cons_succ, i64_w, i32_w]; rfl)
      refine pure_ (i := 18) (N := some 63) (v := ?_) (a' := ?_) #[true, true, true, true, true, true, true, true, true, true, true, true, true, true, true, true, true, true, true, false, false, false] rfl rfl (by kernel_rfl) (fun _ _ _ h => h) (Or.inl ⟨by rfl, ?_⟩) ?_ ?_
      rotate_left
      · (intro w'; go_simp; with_reducible rfl)
      rotate_left
      · (simp only [Act.put, List.setIfInBounds_toArray, List.set_cons_zero, List.set_cons_succ, i64_w, i32_w]; rfl)
      refine pure_ (i := 19) (N := some 64) (v := ?_) (a' := ?_) #[true, true, true, true, true, true, true, true, true, true, true, true, true, true, true, true, true, true, true, true, false, false] rfl rfl (by kernel_rfl) (fun _ _ _ h => h) (Or.inl ⟨by rfl, ?_⟩) ?_ ?_
      rotate_left
      · (intro w'; go_simp; with_reducible rfl)
      rotate_left
      · (simp only [Act.put, List.setIfInBounds_toArray, List.set_cons_zero, List.set_cons_succ, i64_w, i32_w]; rfl)
      refine pure_ (i := 20) (N := some 13) (v := ?_) (a' := ?_) #[true, true, true, true, true, true, true, true, true, true, true, true, true, true, true, true, true, true, true, true, true, false] rfl rfl (by kernel_rfl) (fun _ _ _ h => h) (Or.inl ⟨by rfl, ?_⟩) ?_ ?_
      rotate_left
      · (intro w'; go_simp; with_reducible rfl)
      rotate_left
      · (simp only [Act.put, List.setIfInBounds_toArray, List.set_cons_zero, List.set_cons_succ, i64_w, i32_w]; rfl)
      refine pure_ (i := 21) (N := some 14) (v := ?_) (a' := ?_) #[true, true, true, true, true, true, true, true, true, true, true, true, true, true, true, true, true, true, true, true, true, true] rfl rfl (by kernel_rfl) (fun _ _ _ h => h) (Or.inl ⟨by rfl, ?_⟩) ?_ ?_
      rotate_left
      · (intro w'; go_simp; with_reducible rfl)
      rotate_left
      · (simp only [Act.put, List.setIfInBounds_toArray, List.set_cons_zero, List.set_cons_succ, i64_w, i32_w]; rfl)
      refine done_ (by kernel_rfl) ?_
      clear hHeld hr2 hw2 hw3 hd1 hd2
      have hf3 := pw_cell_below HB4.out HF3.out
      have hb5 := HB4.out.size
      have HSN : Aside0 ((List.range (j + 1)).map (quadOf D.V.length D.ES.length k D.ES fc) = (List.range j).map (quadOf D.V.length D.ES.length k D.ES fc) ++ [[a0, D.V.length + q1n, D.V.length + D.ES.length + k, D.V.length + q2n]]) := ⟨by
        rw [List.range_succ, List.map_append, List.map_cons, List.map_nil, HQ.out]⟩
      have hol : ((List.range j).map (quadOf D.V.length D.ES.length k D.ES fc)).length = j := by simp
      generalize (List.range j).map (quadOf D.V.length D.ES.length k D.ES fc) = qs at HO4 HSN hol
      clear HO
      obtain ⟨v8, hv8⟩ : ∃ v, v = u8 := ⟨_, rfl⟩
      rw [← hv8] at HO4
      have HMK : Aside0 ((Kd.slice 3 (Kd.int .i64)).M (W4.alloc (.cells #[.int .i64 a0, .int .i64 (D.V.length + q1n), .int .i64 (D.V.length + D.ES.length + k), .int .i64 (D.V.length + q2n)] 3)) w.heap.size (fun q => some q ≠ v8.ownBlock) [a0, D.V.length + q1n, D.V.length + D.ES.length + k, D.V.length + q2n] [.slice (some ⟨W4.heap.size, 0, none⟩) 4 4]) := ⟨⟨_, rfl, fourR (heap_alloc_new _ _) hb5 (fun e => by
        obtain ⟨inner, ho⟩ := Kd.R_own HO4.out
        have := own_lt ho _ e.symm
        omega)⟩⟩
      have HO5 := Aside0.mk (Kd.R_alloc HO4.out (.cells #[.int .i64 a0, .int .i64 (D.V.length + q1n), .int .i64 (D.V.length + D.ES.length + k), .int .i64 (D.V.length + q2n)] 3))
      have HB5 := Aside0.mk (below_alloc HB4.out (.cells #[.int .i64 a0, .int .i64 (D.V.length + q1n), .int .i64 (D.V.length + D.ES.length + k), .int .i64 (D.V.length + q2n)] 3))
      obtain ⟨W5, hW5⟩ : ∃ W5, W4.alloc (.cells #[.int .i64 a0, .int .i64 (D.V.length + q1n), .int .i64 (D.V.length + D.ES.length + k), .int .i64 (D.V.length + q2n)] 3) = W5 := ⟨_, rfl⟩
      rw [hW5] at HMK HO5 HB5
      have HB6 := Aside0.mk HB5.out.size
      subst hv8
      clear hb5
      go_wp2_with (first | (at_builtin; refine Kd.R_append (Kd.slice 3 (Kd.int .i64)) (w0 := w) w.heap.size rfl (.tmp 65) (.tmp 84) 23 29 (.slice none 0 0) 24 rfl Try.underlying23 infoB29 rfl (by decide) (by omega) _ qs [a0, D.V.length + q1n, D.V.length + D.ES.length + k, D.V.length + q2n] [.slice (some ⟨W4.heap.size, 0, none⟩) 4 4] (fun _ => True) _ rfl rfl HMK.out (fun _ hk => ⟨trivial, hk⟩) (fun _ _ => trivial) HO5.out HB5.out HB6.out (by rw [hol]; omega) ?_))
      intro v1 w1 hr1' hb1' hg1' hat1'
      have HRR := Aside0.mk hr1'
      have HBB := Aside0.mk hb1'
      clear hr1' hb1' hg1' hat1'
      go_wp2_with fail
      go_roundw
      case rel => exact ⟨j + 1, by omega, by go_num, ⟨by rw [HSN.out]; exact HRR.out⟩, HBB⟩
      case measure => simp [intOf]; omega
    · obtain rfl : j = fc.length := by omega
      go_wp2_with fail
      go_ret
      exact ⟨_, rfl, HO.out, HB.out⟩
end Go.Proofs.Ytnjdjfengoaleaa.MSub
namespace Go.Proofs.Ytnjdjfengoaleaa.MSub
open Go.RowKit Go.Proofs.YtnjdjfengoaleaaW.PrintWords Go.Proofs.YtnjdjfengoaleaaW.PrintLast Go.Proofs.YtnjdjfengoaleaaW.PrintMore
set_option linter.unusedVariables false
set_option linter.unusedSimpArgs false
def nearP (p : S42) : Bool := decide (-65536 ≤ p.f0 ∧ p.f0 ≤ 65536 ∧ -65536 ≤ p.f1 ∧ p.f1 ≤ 65536 ∧ -65536 ≤ p.f2 ∧ p.f2 ≤ 65536)
theorem level1_spec (p : S42) : sub_Level_1.f p.f0 p.f1 p.f2 = some (!nearP p) := by
  unfold sub_Level_1.f vec_Within.f nearP
  have hw : wrap64 (-65536) = -65536 := by unfold wrap64; omega
  rw [hw]
  by_cases h1 : mn (mn p.f0 p.f1) p.f2 ≥ -65536
  · rw [if_pos h1]
    simp only [Option.bind_some]
    congr 2
    rw [decide_eq_decide]
    unfold mn at h1
    unfold mx
    omega
  · rw [if_neg h1]
    simp only [Option.bind_some]
    have : ¬ (-65536 ≤ p.f0 ∧ p.f0 ≤ 65536 ∧ -65536 ≤ p.f1 ∧ p.f1 ≤ 65536 ∧ -65536 ≤ p.f2 ∧ p.f2 ≤ 65536) := by
      unfold mn at h1
      omega
    rw [decide_eq_false this]
theorem level1_calls (p : S42) (w : World) : Calls Try.prog 33 #[.agg #[.int .i64 p.f0, .int .i64 p.f1, .int .i64 p.f2]] w fun e w' => e = .returned (.bool (!nearP p)) ∧ Below w.heap.size w w' :=
  sub_Level_1.calls _ _ _ _ w (level1_spec p)
set_option maxHeartbeats 1000000 in
set_option maxRecDepth 100000 in
theorem index_calls (w : World) (A : Option Addr) (c : Nat) (V : List S42) (hV : Kd.C k42 w A V.length V) :
    Calls Try.prog 52 #[.slice A V.length c, .func (.func 33) #[] #[]] w fun e w' => ∃ r : Int, e = .returned (.int .i64 r) ∧ (decide (r ≥ 0) = V.any (fun p => !nearP p)) ∧ Below w.heap.size w w' := by
  have HV := Aside0.mk hV
  have hlen := hV.2.1
  clear hV
  go_enter Try.func52, Try.ntmps52
  go_wp2_with fail
  go_loopw [8] (fun v8 wr => ∃ j : Nat, j ≤ V.length ∧ v8 = .int .i64 j ∧ Aside0 ((V.take j).any (fun p => !nearP p) = false) ∧ Aside0 (Below w.heap.size w wr))
    (fun v8 _ => V.length - (intOf v8).toNat)
  case atStart => exact ⟨0, Nat.zero_le _, rfl, ⟨rfl⟩, ⟨Below.refl _ _⟩⟩
  case round =>
    obtain ⟨j, hj, rfl, HN, HB⟩ := hrel
    by_cases hlt : j < V.length
    · obtain ⟨ad, rfl, hx0, hx1, hx2⟩ := at_T42 (Kd.C_below HV.out HB.out) (j : Int) (by omega) (by omega)
      rw [Int.toNat_natCast] at hx0 hx1 hx2
      obtain ⟨p, hp⟩ : ∃ p, rd_T42 V (j : Int) = p := ⟨_, rfl⟩
      rw [hp] at hx0 hx1 hx2
      have hg : V[j]'hlt = p := by rw [← hp]; simp [rd_T42, List.getD_eq_getElem?_getD, hlt]
      have HG := Aside0.mk hg
      have HC := Aside0.mk (level1_calls p wr)
      obtain ⟨np, hnp⟩ : ∃ np, nearP p = np := ⟨_, rfl⟩
      rw [hnp] at HC
      have HNP := Aside0.mk hnp
      clear hp hg hnp
      go_wp2_with fail
      refine HC.out.mono ?_
      rintro e w2 ⟨rfl, hb⟩
      have HB2 := Aside0.mk (below_then HB.out HB.out.size hb)
      clear hb hx0 hx1 hx2
      cases np with
      | false =>
        go_wp2_with fail
        go_ret
        refine ⟨(j : Int), rfl, ?_, HB2.out⟩
        rw [decide_eq_true (by omega)]
        symm
        rw [List.any_eq_true]
        exact ⟨p, by rw [← HG.out]; exact List.getElem_mem hlt, by rw [HNP.out]; rfl⟩
      | true =>
        go_wp2_with fail
        go_roundw
        case rel => exact ⟨j + 1, by omega, by go_num, ⟨by rw [List.take_succ_eq_append_getElem hlt, List.any_append, HN.out, HG.out]; simp [HNP.out]⟩, HB2⟩
        case measure => simp [intOf]; omega
    · obtain rfl : j = V.length := by omega
      rw [List.take_length] at HN
      go_wp2_with fail
      go_ret
      exact ⟨-1, rfl, by rw [HN.out]; rfl, HB.out⟩
set_option maxHeartbeats 1000000 in
set_option maxRecDepth 100000 in
theorem far_calls (w : World) (A : Option Addr) (c : Nat) (V : List S42) (hV : Kd.C k42 w A V.length V) :
    Calls Try.prog 32 #[.slice A V.length c, .func (.func 33) #[] #[]] w fun e w' => e = .returned (.bool (V.any (fun p => !nearP p))) ∧ Below w.heap.size w w' := by
  have HI := Aside0.mk (index_calls w A c V hV)
  clear hV
  obtain ⟨b, hb⟩ : ∃ b, V.any (fun p => !nearP p) = b := ⟨_, rfl⟩
  rw [hb] at HI ⊢
  clear hb
  go_enter Try.func32, Try.ntmps32
  go_wp2_with fail
  refine HI.out.mono ?_
  rintro e w2 ⟨r, rfl, hr, hb2⟩
  have HR := Aside0.mk hr
  have HB := Aside0.mk hb2
  clear hr hb2
  go_wp2_with fail
  go_ret
  exact ⟨by rw [← HR.out]; rfl, HB.out⟩
end Go.Proofs.Ytnjdjfengoaleaa.MSub
namespace Go.Proofs.Ytnjdjfengoaleaa.MSub
open Go.RowKit Go.Proofs.YtnjdjfengoaleaaW.PrintWords Go.Proofs.YtnjdjfengoaleaaW.PrintLast Go.Proofs.YtnjdjfengoaleaaW.PrintMore
open Go.Proofs.Ytnjdjfengoaleaa.Relv
attribute [local go_sem] max2_mx max_two
set_option linter.unusedVariables false
set_option linter.unusedSimpArgs false
def markTo (ES : List S47) (j : Nat) : List Int := (List.range ES.length).map (fun i : Nat => if i < j ∧ edgedM (rd_T47 ES i) = true then (255 : Int) else 0)
def sharpX (ES : List S47) : List Int → List S53 → Option (List Int)
  | l, [] => some l
  | l, x :: xs => if (findE ES x.f0 x.f1).2 then sharpX ES (l.set (findE ES x.f0 x.f1).1.toNat (mx (rd l (findE ES x.f0 x.f1).1) x.f2)) xs else none
def sharpM (ES : List S47) (X : List S53) : Option (List Int) := sharpX ES (markTo ES ES.length) X
theorem markTo_len (ES : List S47) (j : Nat) : (markTo ES j).length = ES.length := by simp [markTo]
theorem markTo_zero (ES : List S47) : markTo ES 0 = List.replicate ES.length 0 := by
  unfold markTo
  rw [List.eq_replicate_iff]
  exact ⟨by simp, fun b hb => by obtain ⟨i, _, rfl⟩ := List.mem_map.1 hb; rw [if_neg (by omega)]⟩
theorem markTo_succ (ES : List S47) (j : Nat) (hj : j < ES.length) : markTo ES (j + 1) = if edgedM (rd_T47 ES j) = true then (markTo ES j).set j 255 else markTo ES j := by
  by_cases he : edgedM (rd_T47 ES j) = true
  · rw [if_pos he]
    unfold markTo
    refine List.ext_getElem (by simp) (fun i h1 h2 => ?_)
    rw [List.getElem_set]
    by_cases hij : j = i
    · subst hij
      rw [if_pos rfl]
      simp [he]
    · rw [if_neg hij]
      simp only [List.getElem_map, List.getElem_range]
      congr 1
      rw [eq_iff_iff]
      constructor
      · rintro ⟨a, b⟩; exact ⟨by omega, b⟩
      · rintro ⟨a, b⟩; exact ⟨by omega, b⟩
  · rw [if_neg he]
    unfold markTo
    refine List.map_congr_left (fun i hi => ?_)
    by_cases hij : j = i
    · subst hij
      rw [if_neg (fun h => he h.2), if_neg (fun h => he h.2)]
    · congr 1
      rw [eq_iff_iff]
      constructor
      · rintro ⟨a, b⟩; exact ⟨by omega, b⟩
      · rintro ⟨a, b⟩; exact ⟨by omega, b⟩
theorem found_lt {ES : List S47} {a b : Int} (h : (findE ES a b).2 = true) : 0 ≤ (findE ES a b).1 ∧ (findE ES a b).1 < ES.length := by
  unfold findE at h ⊢
  split at h
  · rename_i i hi
    obtain ⟨h1, _, _⟩ := List.findIdx?_eq_some_iff_getElem.1 hi
    simp only
    omega
  · cases h
structure SW (w wr : World) (g2 g3 g6 n : Nat) (c1 c2 : Array Value) (xs : List Int) : Prop where
  b2 : wr.heap[g2]? = some (.cells c1 26 (0, 0))
  b3 : wr.heap[g3]? = some (.cells c2 36 (0, 0))
  row : wr.ownsRow w.heap.size 3 1 (.slice (some ⟨g6, 0, none⟩) n n) n (nums .i64 xs)
  b : Below w.heap.size w wr
section
variable {w wr w1 : World} {g2 g3 g6 n : Nat} {c1 c2 : Array Value} {xs : List Int}
theorem SW.step (h : SW w wr g2 g3 g6 n c1 c2 xs) (hb : Below wr.heap.size wr w1) : SW w w1 g2 g3 g6 n c1 c2 xs :=
  ⟨(hb.block _ (lt_of_block h.b2)).trans h.b2, (hb.block _ (lt_of_block h.b3)).trans h.b3, pw_own_below h.row hb, below_then h.b h.b.size hb⟩
theorem SW.put (h : SW w wr g2 g3 g6 n c1 c2 xs) (i x : Int) : SW w (wr.setCell ⟨g6, i.toNat, none⟩ (.int .i64 x)) g2 g3 g6 n c1 c2 (xs.set i.toNat x) := by
  obtain ⟨h1, h2⟩ := own_store h.row i x
  have hne2 := own_ne h.row h.b2 (by decide)
  have hne3 := own_ne h.row h.b3 (by decide)
  have e : (Value.slice (some ⟨g6, 0, none⟩) n n).ownBlock = some g6 := rfl
  rw [e] at hne2 hne3
  exact ⟨(h2.block _ (lt_of_block h.b2) hne2).trans h.b2, (h2.block _ (lt_of_block h.b3) hne3).trans h.b3, h1, h.b.grown h2 h.b.size (fun k hk => by cases hk; exact own_base h.row _ rfl)⟩
theorem SW.made (w : World) (c1 c2 : Array Value) (n : Nat) (hn : n ≤ 1099511627776) : SW w (((w.alloc (.cells c1 26)).alloc (.cells c2 36)).alloc (.cells (madeCells #[.int .i64 0] n) 3)) w.heap.size (w.heap.size + 1) (w.heap.size + 1 + 1) n c1 c2 (List.replicate n 0) := by
  have s1 : (w.alloc (.cells c1 26)).heap.size = w.heap.size + 1 := by simp
  have s2 : ((w.alloc (.cells c1 26)).alloc (.cells c2 36)).heap.size = w.heap.size + 1 + 1 := by simp
  refine ⟨?_, ?_, ?_, below_alloc (below_alloc (below_alloc (Below.refl _ _) _) _) _⟩
  · rw [Below.heap_alloc _ _ _ (by rw [s2]; omega), Below.heap_alloc _ _ _ (by rw [s1]; omega)]
    exact heap_alloc_new _ _
  · rw [Below.heap_alloc _ _ _ (by rw [s2]; omega)]
    have := heap_alloc_new (w.alloc (.cells c1 26)) (.cells c2 36)
    rw [s1] at this
    exact this
  · have := own_made ((w.alloc (.cells c1 26)).alloc (.cells c2 36)) w.heap.size 3 .i64 n (by rw [s2]; omega) (by omega)
    rw [s2] at this
    exact this
end
set_option maxHeartbeats 1000000 in
set_option maxRecDepth 100000 in
theorem sharp_calls (w : World) (A0 A1 A2 A3 A4 A5 : Option Addr) (n0 c0 n1 c1 c2 c3 c4 c5 : Nat) (X : List S53) (ES : List S47) (FN : List (List Int)) (RD : List Bool) (hX : Kd.C k53 w A2 X.length X)
    (hE : Kd.C k47 w A3 ES.length ES) (h3 : ES.length ≤ c3) (hF : Kd.C (Kd.slice 3 (Kd.int .i64)) w A4 FN.length FN) (h4 : FN.length ≤ c4) (hR : Kd.C Kd.bool w A5 RD.length RD) (h5 : RD.length ≤ c5) (hs : Sorted47 ES) (hl : ES.length ≤ 1099511627776) :
    Calls Try.prog 16 #[.agg #[.slice A0 n0 c0, .slice A1 n1 c1, .slice A2 X.length c2], .agg #[.slice A3 ES.length c3, .slice A4 FN.length c4, .slice A5 RD.length c5]] w fun e w' => ∃ v0 : Value,
      e = .returned (.tuple #[v0, .int .i64 (if (sharpM ES X).isSome then 0 else 14)]) ∧ Kd.R (Kd.int .i64) 3 w' w.heap.size (fun _ => True) v0 ((sharpM ES X).getD []) ∧ Below w.heap.size w w' := by
  have hmk := print_make (P := Try.prog) 29 3 .i64 8 Try.underlying29 info3 (by decide) ES.length (by omega)
  have HX := Aside0.mk hX
  have HE := Aside0.mk hE
  have HF := Aside0.mk hF
  have HR := Aside0.mk hR
  have HS := Aside0.mk hs
  obtain ⟨res, hres⟩ : ∃ res, sharpM ES X = res := ⟨_, rfl⟩
  rw [hres]
  have HRES := Aside0.mk hres
  obtain ⟨en, hen⟩ : ∃ en : Int, (if res.isSome then 0 else 14) = en := ⟨_, rfl⟩
  rw [hen]
  have HEN := Aside0.mk hen
  clear hX hE hF hR hs hres hen
  go_enter Try.func16, Try.ntmps16
  go_wp2_with fail
  have HSW := Aside0.mk (SW.made w #[.slice A0 n0 c0, .slice A1 n1 c1, .slice A2 X.length c2] #[.slice A3 ES.length c3, .slice A4 FN.length c4, .slice A5 RD.length c5] ES.length hl)
  rw [← markTo_zero] at HSW
  obtain ⟨g3, hg3⟩ : ∃ g3, w.heap.size + 1 = g3 := ⟨_, rfl⟩
  rw [hg3] at HSW ⊢
  obtain ⟨g6, hg6⟩ : ∃ g6, g3 + 1 = g6 := ⟨_, rfl⟩
  rw [hg6] at HSW ⊢
  clear hmk
  go_loopw [18] (fun v18 wr => ∃ j : Nat, j ≤ ES.length ∧ v18 = .int .i64 j ∧ Aside0 (SW w wr w.heap.size g3 g6 ES.length #[.slice A0 n0 c0, .slice A1 n1 c1, .slice A2 X.length c2] #[.slice A3 ES.length c3, .slice A4 FN.length c4, .slice A5 RD.length c5] (markTo ES j)))
    (fun v18 _ => ES.length - (intOf v18).toNat)
  case atStart => exact ⟨0, Nat.zero_le _, rfl, HSW⟩
  case round =>
    obtain ⟨j, hj, rfl, HW⟩ := hrel
    by_cases hlt : j < ES.length
    · have hk0 : wr.cell? ⟨g3, 0, none⟩ = some (.slice A3 ES.length c3) := (blk_cell HW.out.b3 0).trans rfl
      have hk1 : wr.cell? ⟨g3, 1, none⟩ = some (.slice A4 FN.length c4) := (blk_cell HW.out.b3 1).trans rfl
      have hk2 : wr.cell? ⟨g3, 2, none⟩ = some (.slice A5 RD.length c5) := (blk_cell HW.out.b3 2).trans rfl
      have hed : topo_Edged.f ES FN RD j = some (edgedM (rd_T47 ES j)) := by
        unfold topo_Edged.f
        rw [if_pos (by omega), if_pos (by omega), if_pos (by omega)]
        rfl
      have HED := Aside0.mk (topo_Edged.calls A3 c3 ES A4 c4 FN A5 c5 RD j _ wr (Kd.C_below HE.out HW.out.b) h3 (Kd.C_below HF.out HW.out.b) h4 (Kd.C_below HR.out HW.out.b) h5 hed)
      have HM := Aside0.mk (markTo_succ ES j hlt)
      obtain ⟨eb, heb⟩ : ∃ eb, edgedM (rd_T47 ES j) = eb := ⟨_, rfl⟩
      rw [heb] at HED HM
      clear hed heb
      go_wp2_with fail
      refine HED.out.mono ?_
      rintro e w2 ⟨rfl, hb2⟩
      have HW2 := Aside0.mk (HW.out.step hb2)
      clear hb2 hk0 hk1 hk2
      cases eb with
      | false =>
        go_wp2_with fail
        go_roundw
        case rel => exact ⟨j + 1, by omega, by go_num, ⟨by rw [HM.out]; exact HW2.out⟩⟩
        case measure => simp [intOf]; omega
      | true =>
        obtain ⟨hca, hfz⟩ := own_at HW2.out.row (j : Int) (by omega) (by omega)
        rw [Int.toNat_natCast] at hca hfz
        have HP := Aside0.mk (HW2.out.put (j : Int) 255)
        rw [Int.toNat_natCast] at HP
        go_wp2_with fail
        go_roundw
        case rel => exact ⟨j + 1, by omega, by go_num, ⟨by rw [HM.out]; exact HP.out⟩⟩
        case measure => simp [intOf]; omega
    · obtain rfl : j = ES.length := by omega
      have hk2 : wr.cell? ⟨w.heap.size, 2, none⟩ = some (.slice A2 X.length c2) := (blk_cell HW.out.b2 2).trans rfl
      have HRS : Aside0 (sharpX ES (markTo ES ES.length) (X.drop 0) = res) := ⟨HRES.out⟩
      have HLN := Aside0.mk (markTo_len ES ES.length)
      generalize markTo ES ES.length = l0 at HW HRS HLN
      have hXl := HX.out.2.1
      go_wp2_with fail
      clear hk2
      obtain ⟨wo, rfl⟩ : ∃ wo : World, wo = wr := ⟨_, rfl⟩
      go_loopw [31] (fun v31 wr => ∃ (j : Nat) (l : List Int), j ≤ X.length ∧ v31 = .int .i64 j ∧ Aside0 (l.length = ES.length) ∧ Aside0 (sharpX ES l (X.drop j) = res) ∧ Aside0 (SW w wr w.heap.size g3 g6 ES.length #[.slice A0 n0 c0, .slice A1 n1 c1, .slice A2 X.length c2] #[.slice A3 ES.length c3, .slice A4 FN.length c4, .slice A5 RD.length c5] l))
        (fun v31 _ => X.length - (intOf v31).toNat)
      case atStart => exact ⟨0, l0, Nat.zero_le _, rfl, HLN, HRS, HW⟩
      case round =>
        obtain ⟨j, l, hj, rfl, HL, HRJ, HWJ⟩ := hrel
        by_cases hlt : j < X.length
        · obtain ⟨ad, hA2, hx0, hx1, hx2⟩ := at_T53 (Kd.C_below HX.out HWJ.out.b) (j : Int) (by omega) (by omega)
          rw [Int.toNat_natCast] at hx0 hx1 hx2
          obtain ⟨x, hx⟩ : ∃ x, rd_T53 X (j : Int) = x := ⟨_, rfl⟩
          rw [hx] at hx0 hx1 hx2
          subst hA2
          have hdr : X.drop j = x :: X.drop (j + 1) := by
            rw [List.drop_eq_getElem_cons hlt, ← hx]
            simp [rd_T53, List.getD_eq_getElem?_getD, hlt]
          rw [hdr] at HRJ
          obtain ⟨q, hq⟩ : ∃ q, findE ES x.f0 x.f1 = q := ⟨_, rfl⟩
          have HQ : Aside0 ((if q.2 then sharpX ES (l.set q.1.toNat (mx (rd l q.1) x.f2)) (X.drop (j + 1)) else none) = res) := ⟨by rw [← hq]; exact HRJ.out⟩
          have HQL : Aside0 (q.2 = true → 0 ≤ q.1 ∧ q.1 < ES.length) := ⟨fun h => by rw [← hq] at h ⊢; exact found_lt h⟩
          have HFD := Aside0.mk (fun Y (hY : Below w.heap.size w Y) => topo_Find.calls A3 c3 ES A4 c4 FN A5 c5 RD x.f0 x.f1 q.1 q.2 Y (Kd.C_below HE.out hY) h3 (Kd.C_below HF.out hY) h4 (Kd.C_below HR.out hY) h5 (by unfold topo_Find.f; rw [if_pos ⟨HS.out, hl⟩, hq]))
          clear hdr hq hx HRJ
          obtain ⟨qn, qb⟩ := q
          simp only at HQ HQL HFD
          have HWB := Aside0.mk (HWJ.out.step (below_alloc (Below.refl _ _) (.cells #[.int .i64 x.f0, .int .i64 x.f1, .int .i64 x.f2] 53)))
          have hbx := heap_alloc_new wr (.cells #[.int .i64 x.f0, .int .i64 x.f1, .int .i64 x.f2] 53)
          obtain ⟨W, hW⟩ : ∃ W, wr.alloc (.cells #[.int .i64 x.f0, .int .i64 x.f1, .int .i64 x.f2] 53) = W := ⟨_, rfl⟩
          rw [hW] at HWB hbx
          obtain ⟨g9, hg9⟩ : ∃ g9, wr.heap.size = g9 := ⟨_, rfl⟩
          rw [hg9] at hbx
          have hk0 : W.cell? ⟨g3, 0, none⟩ = some (.slice A3 ES.length c3) := (blk_cell HWB.out.b3 0).trans rfl
          have hk1 : W.cell? ⟨g3, 1, none⟩ = some (.slice A4 FN.length c4) := (blk_cell HWB.out.b3 1).trans rfl
          have hk2 : W.cell? ⟨g3, 2, none⟩ = some (.slice A5 RD.length c5) := (blk_cell HWB.out.b3 2).trans rfl
          have hz0 : W.cell? ⟨g9, 0, none⟩ = some (.int .i64 x.f0) := (blk_cell hbx 0).trans rfl
          have hz1 : W.cell? ⟨g9, 1, none⟩ = some (.int .i64 x.f1) := (blk_cell hbx 1).trans rfl
          have HBX := Aside0.mk hbx
          clear hbx
          go_wp2_with fail
          refine (HFD.out _ HWB.out.b).mono ?_
          rintro e w2 ⟨rfl, hb2⟩
          have HW2 := Aside0.mk (HWB.out.step hb2)
          have HBX2 := Aside0.mk ((hb2.block _ (lt_of_block HBX.out)).trans HBX.out)
          clear hb2 hk0 hk1 hk2 hz0 hz1 hx0 hx1 hx2 hW hg9
          cases qb with
          | false =>
            have HN : Aside0 (res = none) := ⟨by have := HQ.out; rw [if_neg (by simp)] at this; exact this.symm⟩
            go_wp2_with fail
            refine bodyPost_ret (results_tmp2 rfl _ _ _) rfl ?_
            obtain rfl : en = 14 := by rw [← HEN.out, HN.out]; rfl
            exact ⟨.slice none 0 0, rfl, by rw [HN.out]; exact Kd.R_nil _ _ _ _ _, HW2.out.b⟩
          | true =>
            obtain ⟨hq0, hq1⟩ := HQL.out rfl
            obtain ⟨m, hm⟩ : ∃ m : Nat, (m : Int) = qn := ⟨qn.toNat, by omega⟩
            subst hm
            obtain ⟨hca, hfz⟩ := own_at HW2.out.row (m : Int) hq0 hq1
            rw [Int.toNat_natCast] at hca hfz
            have hz2 : w2.cell? ⟨g9, 2, none⟩ = some (.int .i64 x.f2) := (blk_cell HBX2.out 2).trans rfl
            have HP := Aside0.mk (HW2.out.put (m : Int) (mx (rd l (m : Int)) x.f2))
            rw [Int.toNat_natCast] at HP
            have HNX : Aside0 (sharpX ES (l.set m (mx (rd l (m : Int)) x.f2)) (X.drop (j + 1)) = res) := ⟨HQ.out⟩
            generalize rd l (m : Int) = lm at hca HP HNX
            clear HQ HQL HFD
            go_wp2_with fail
            go_region
            all_goals (go_wp2_with fail)
            go_roundw
            case rel => exact ⟨j + 1, _, by omega, by go_num, ⟨by rw [List.length_set]; exact HL.out⟩, HNX, ⟨HP.out.step (below_drew (Below.refl _ _))⟩⟩
            case measure => simp [intOf]; omega
        · obtain rfl : j = X.length := by omega
          have HN : Aside0 (res = some l) := ⟨by have := HRJ.out; rw [List.drop_length] at this; exact this.symm⟩
          go_wp2_with fail
          refine bodyPost_ret (results_tmp2 rfl _ _ _) rfl ?_
          obtain rfl : en = 0 := by rw [← HEN.out, HN.out]; rfl
          refine ⟨.slice (some ⟨g6, 0, none⟩) ES.length ES.length, rfl, ?_, HWJ.out.b⟩
          rw [HN.out]
          exact Kd.R_of_own (enc := Value.int .i64) (h1 := fun _ => rfl) (by have := HWJ.out.row; rw [Option.getD_some, HL.out]; exact this) (fun _ _ => trivial)
end Go.Proofs.Ytnjdjfengoaleaa.MSub
