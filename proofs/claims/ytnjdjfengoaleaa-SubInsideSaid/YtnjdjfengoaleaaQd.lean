/- Texts of this claim, merged by a program of this session; what the claim does not use is left out. -/
import Derived.Test.YtnjdjfengoaleaaQb
import Derived.Outline
namespace Go.Proofs.Ytnjdjfengoaleaa.MSub
open Go.RowKit Go.Proofs.YtnjdjfengoaleaaW.PrintWords Go.Proofs.YtnjdjfengoaleaaW.PrintLast Go.Proofs.YtnjdjfengoaleaaW.PrintMore
attribute [local go_sem] max2_int min2_int max_two min_two max_three min_three max_four min_four   -- for this text's walks alone
set_option linter.unusedVariables false
set_option linter.unusedSimpArgs false
def topo_ways.l0 : Nat → List Int → List (S115) → List Int → Int → Int → Option ((List (S115)))
  | 0, _, _, _, _, _ => none
  | k + 1, x0, x3, x6, x7, x8 => if x8 < x7 then (if 0 ≤ x8 then (if x8 < (x6.length : Int) then (if (x0.length : Int) = 0 then (none) else (if 0 ≤ (Int.tmod (wrap64 (x8 + 1)) (x0.length : Int)) then (if (Int.tmod (wrap64 (x8 + 1)) (x0.length : Int)) < (x0.length : Int) then (if x3.length < 8796093022208 then (topo_ways.l0 k x0 (x3 ++ [(⟨rd x6 x8, rd x0 (Int.tmod (wrap64 (x8 + 1)) (x0.length : Int))⟩ : S115)]) x6 x7 (wrap64 (x8 + 1))) else (none)) else (none)) else (none))) else (none)) else (none)) else (some x3)
def topo_ways.f (k : Nat) (l0 : List Int) : Option ((List (S115))) := topo_ways.l0 k l0 ([] : List (S115)) l0 (l0.length : Int) 0
set_option maxHeartbeats 8000000 in
set_option maxRecDepth 100000 in
theorem topo_ways.calls (k : Nat) (A0 : Option Addr) (c0 : Nat) (l0 : List Int) (r : List (S115)) (w : World) (hr0 : Kd.C (Kd.int .i64) w A0 l0.length l0) (hc0 : l0.length ≤ c0) (h : topo_ways.f k l0 = some r) :
    Calls Try.prog 57 #[.slice A0 l0.length c0] w fun e w' => ∃ v0_ : Value, e = .returned (v0_) ∧ Kd.R k115 115 w' w.heap.size (fun _ => True) v0_ r ∧ Below w.heap.size w w' := by
  have hu115 := Try.underlying115
  have HR0 := Aside0.mk hr0
  have HC0 := Aside0.mk hc0
  clear hr0 hc0
  have HB := Aside0.mk (Below.refl w.heap.size w)
  have H : (topo_ways.l0 k l0 ([] : List (S115)) l0 (l0.length : Int) 0) = some r := h
  clear h
  have H' := Aside0.mk H
  clear H
  go_enter Try.func57, Try.ntmps57
  go_wp2
  go_loopg [3, 8] k (fun kq v3 v8 w' => ∃ (x3_1 : List (S115)) (x8_1 : Int), v8 = .int .i64 x8_1 ∧ Aside0 (topo_ways.l0 kq l0 x3_1 l0 (l0.length : Int) x8_1 = some r) ∧ Aside0 (kq ≤ k) ∧ Aside0 (Kd.R k115 115 w' w.heap.size (fun _ => True) v3 x3_1) ∧ Aside0 (Below w.heap.size w w'))
  case atStart => exact ⟨(([] : List (S115))), (0), (by first | rfl | (simp; done) | (simp [*]; done)), H', ⟨Nat.le_refl _⟩, ⟨by first | exact Kd.R_nil _ _ _ _ _ | exact Kd.N_nil _ _ _ _ _ | exact Kd.V_nil _ _ _ _ _ | exact Kd.Q_nil _ _ _ _ _ | exact Kd.S_nil _ _ _ _ _⟩, ⟨by repeat (first | (with_reducible first | exact HB.out | apply below_alloc | apply pw_below_drewN | apply below_drew1) | exact HB.out)⟩⟩
  case round =>
    clear H'
    obtain ⟨x3_1, x8_1, rfl, HA, HK1, HO_3, HB⟩ := hrel
    cases gk with
    | zero => exact absurd HA.out (by simp [topo_ways.l0])
    | succ k1 =>
      have H := HA.out
      clear HA
      simp only [topo_ways.l0] at H
      by_cases c2 : x8_1 < (l0.length : Int)
      · rw [if_pos c2] at H
        have c2b0 : decide (x8_1 < (l0.length : Int)) = true := decide_eq_true c2
        clear c2
        by_cases c3 : 0 ≤ x8_1
        · rw [if_pos c3] at H
          have c3b0 : decide (0 ≤ x8_1) = true := decide_eq_true c3
          clear c3
          by_cases c4 : x8_1 < (l0.length : Int)
          · rw [if_pos c4] at H
            have c4b0 : decide (x8_1 < (l0.length : Int)) = true := decide_eq_true c4
            clear c4
            by_cases c5 : (l0.length : Int) = 0
            · rw [if_pos c5] at H
              exact absurd H (by simp)
            · rw [if_neg c5] at H
              have c5b0 : ((l0.length : Int) == 0) = false := beq_eq_false_iff_ne.mpr c5
              have c5b1 : ((l0.length : Int) != 0) = true := bne_iff_ne.mpr c5
              have c5b2 : ¬ (l0 = []) := fun h_ => c5 (by rw [h_]; rfl)
              obtain ⟨ji6, hji6⟩ : ∃ j_ : Int, (Int.tmod (wrap64 (x8_1 + 1)) (l0.length : Int)) = j_ := ⟨_, rfl⟩
              replace H : (if 0 ≤ (ji6) then (if (ji6) < (l0.length : Int) then (if x3_1.length < 8796093022208 then (topo_ways.l0 k1 l0 (x3_1 ++ [(⟨rd l0 x8_1, rd l0 (ji6)⟩ : S115)]) l0 (l0.length : Int) (wrap64 (x8_1 + 1))) else (none)) else (none)) else (none)) = some r := by first | (rw [hji6] at H; exact H) | (simp only [hji6] at H ⊢; exact H)
              by_cases c7 : 0 ≤ (ji6)
              · rw [if_pos c7] at H
                have c7b0 : decide (0 ≤ (ji6)) = true := decide_eq_true c7
                clear c7
                by_cases c8 : (ji6) < (l0.length : Int)
                · rw [if_pos c8] at H
                  have c8b0 : decide ((ji6) < (l0.length : Int)) = true := decide_eq_true c8
                  clear c8
                  by_cases c9 : x3_1.length < 8796093022208
                  · rw [if_pos c9] at H
                    have LMc9 := Aside0.mk c9
                    clear c9
                    obtain ⟨y138, hy138⟩ : ∃ y_ : List (S115), y_ = (x3_1 ++ [(⟨rd l0 x8_1, rd l0 (ji6)⟩ : S115)]) := ⟨_, rfl⟩
                    replace H : (topo_ways.l0 k1 l0 y138 l0 (l0.length : Int) (wrap64 (x8_1 + 1))) = some r := by first | (rw [hy138]; with_reducible exact H) | (have H2_ := (Option.bind_some _ _).symm.trans H; rw [hy138]; with_reducible exact H2_) | (have H2_ := (Option.bind_some _ _).symm.trans H; with_reducible exact H2_) | with_reducible exact H | (rw [hy138]; exact H) | exact H
                    have Ny138 := Aside0.mk hy138
                    clear hy138
                    have H' := Aside0.mk H
                    clear H
                    have p136 : 0 ≤ (x8_1 : Int) := of_decide_eq_true (by first | (with_reducible assumption) | assumption)
                    have q136 : x8_1 < (l0.length : Int) := of_decide_eq_true (by first | (with_reducible assumption) | assumption)
                    obtain ⟨ad136, e136, hx136_0⟩ := Kd.at_int HR0.out x8_1 p136 q136
                    cases e136
                    replace hx136_0 := (HB.out.cell (World.block_lt_of_cell? w _ hx136_0)).trans hx136_0
                    replace p136 := eq_true p136
                    replace q136 := eq_true q136
                    have p137 : 0 ≤ ((ji6) : Int) := of_decide_eq_true (by first | (with_reducible assumption) | assumption)
                    have q137 : (ji6) < (l0.length : Int) := of_decide_eq_true (by first | (with_reducible assumption) | assumption)
                    obtain ⟨ad137, e137, hx137_0⟩ := Kd.at_int HR0.out (ji6) p137 q137
                    obtain rfl : ad136 = ad137 := (by injection e137)
                    replace hx137_0 := (HB.out.cell (World.block_lt_of_cell? w _ hx137_0)).trans hx137_0
                    replace p137 := eq_true p137
                    replace q137 := eq_true q137
                    go_wp2_with (first | ((with_reducible refine gate_builtin (b := .append) (xs := #[.tmp 13, .tmp 24]) rfl ?_); at_builtin; refine Kd.R_append k115 (w0 := w) w.heap.size rfl (.tmp 13) (.tmp 24) 112 115 (.agg #[(.int .i64 0), (.int .i64 0)]) 16 rfl Try.underlying112 info115 rfl (by decide) (by omega) u3 x3_1 (⟨rd l0 x8_1, rd l0 (ji6)⟩ : S115) [.int .i64 (rd l0 x8_1), .int .i64 (rd l0 (ji6))] (fun _ => True) (fun _ => False) rfl rfl ?aP (fun _ hk => hk.elim) ?aF ?aO ?aB ?aS ?aL ?_; (case aP => exact k115_mkM _ _ _ (⟨rd l0 x8_1, rd l0 (ji6)⟩ : S115)); (case aB => exact (by repeat (first | (with_reducible first | exact HB.out | apply below_alloc | apply pw_below_drewN | apply below_drew1) | exact HB.out))); (case aF => exact (fun _ _ => trivial)); (case aO => exact (by (with_reducible repeat (first | apply Kd.R_alloc | apply Kd.R_drewN | apply Kd.R_drew)); exact HO_3.out)); (case aS => exact (below_size (by repeat (first | (with_reducible first | exact HB.out | apply below_alloc | apply pw_below_drewN | apply below_drew1) | exact HB.out)))); (case aL => have := LMc9.out; omega); intro v139 w10 ho hb hg hat; rw [← Ny138.out] at ho; have n0_ := Aside0.mk (hb); have n1_ := Aside0.mk (ho); clear HB; clear HO_3; have HB := n0_; have HO140 := n1_; clear n0_ n1_; clear ho hb hg hat))
                    go_roundg k1
                    case measure => have := HK1.out; omega
                    case rel => exact ⟨(y138), (wrap64 (x8_1 + 1)), (by first | rfl | (simp; done) | (simp [*]; done)), H', ⟨by have := HK1.out; omega⟩, ⟨by (with_reducible repeat (first | apply Kd.R_alloc | apply Kd.R_drewN | apply Kd.R_drew)); exact HO140.out⟩, ⟨by repeat (first | (with_reducible first | exact HB.out | apply below_alloc | apply pw_below_drewN | apply below_drew1) | exact HB.out)⟩⟩
                  · rw [if_neg c9] at H
                    exact absurd H (by simp)
                · rw [if_neg c8] at H
                  exact absurd H (by simp)
              · rw [if_neg c7] at H
                exact absurd H (by simp)
          · rw [if_neg c4] at H
            exact absurd H (by simp)
        · rw [if_neg c3] at H
          exact absurd H (by simp)
      · rw [if_neg c2] at H
        have c2b0 : decide (x8_1 < (l0.length : Int)) = false := decide_eq_false c2
        clear c2
        obtain rfl := Option.some.inj H
        go_wp2
        go_ret
        exact ⟨_, by first | rfl | (simp [errW_none, errW_some] <;> rfl) | (simp [*, errW_none, errW_some] <;> rfl), by (with_reducible repeat (first | apply Kd.R_alloc | apply Kd.R_drewN | apply Kd.R_drew)); exact HO_3.out, by repeat (first | (with_reducible first | exact HB.out | apply below_alloc | apply pw_below_drewN | apply below_drew1) | exact HB.out)⟩
def topo_Edged.f (l0_0 : List (S47)) (l0_1 : List (List Int)) (l0_2 : List Bool) (a1 : Int) : Option (Bool) := if a1 ≥ 0 then (if a1 < (l0_0.length : Int) then (if 0 ≤ a1 then (some (decide ((mn ((rd_T47 l0_0 a1).f2) ((rd_T47 l0_0 a1).f3)) < 0))) else (none)) else (some false)) else (some false)
set_option maxHeartbeats 8000000 in
set_option maxRecDepth 100000 in
theorem topo_Edged.calls (A0_0 : Option Addr) (c0_0 : Nat) (l0_0 : List (S47)) (A0_1 : Option Addr) (c0_1 : Nat) (l0_1 : List (List Int)) (A0_2 : Option Addr) (c0_2 : Nat) (l0_2 : List Bool) (a1 : Int) (r : Bool) (w : World) (hr0_0 : Kd.C k47 w A0_0 l0_0.length l0_0) (hc0_0 : l0_0.length ≤ c0_0) (hr0_1 : Kd.C (Kd.slice 3 (Kd.int .i64)) w A0_1 l0_1.length l0_1) (hc0_1 : l0_1.length ≤ c0_1) (hr0_2 : Kd.C Kd.bool w A0_2 l0_2.length l0_2) (hc0_2 : l0_2.length ≤ c0_2) (h : topo_Edged.f l0_0 l0_1 l0_2 a1 = some r) :
    Calls Try.prog 42 #[.agg #[.slice A0_0 l0_0.length c0_0, .slice A0_1 l0_1.length c0_1, .slice A0_2 l0_2.length c0_2], .int .i64 a1] w fun e w' => e = .returned (.bool r) ∧ Below w.heap.size w w' := by
  have hu36 := Try.underlying36
  have HR0_0 := Aside0.mk hr0_0
  have HC0_0 := Aside0.mk hc0_0
  clear hr0_0 hc0_0
  have HR0_1 := Aside0.mk hr0_1
  have HC0_1 := Aside0.mk hc0_1
  clear hr0_1 hc0_1
  have HR0_2 := Aside0.mk hr0_2
  have HC0_2 := Aside0.mk hc0_2
  clear hr0_2 hc0_2
  have HB := Aside0.mk (Below.refl w.heap.size w)
  have H : (if a1 ≥ 0 then (if a1 < (l0_0.length : Int) then (if 0 ≤ a1 then (some (decide ((mn ((rd_T47 l0_0 a1).f2) ((rd_T47 l0_0 a1).f3)) < 0))) else (none)) else (some false)) else (some false)) = some r := h
  clear h
  by_cases c3 : a1 ≥ 0
  · rw [if_pos c3] at H
    have c3b0 : decide (0 ≤ a1) = true := decide_eq_true c3
    clear c3
    by_cases c4 : a1 < (l0_0.length : Int)
    · rw [if_pos c4] at H
      have c4b0 : decide (a1 < (l0_0.length : Int)) = true := decide_eq_true c4
      clear c4
      by_cases c5 : 0 ≤ a1
      · rw [if_pos c5] at H
        have c5b0 : decide (0 ≤ a1) = true := decide_eq_true c5
        clear c5
        obtain ⟨ji6, hji6⟩ : ∃ j_ : Int, (mn ((rd_T47 l0_0 a1).f2) ((rd_T47 l0_0 a1).f3)) = j_ := ⟨_, rfl⟩
        replace H : (some (decide ((ji6) < 0))) = some r := by first | (rw [hji6] at H; exact H) | (simp only [hji6] at H ⊢; exact H)
        have hji6_ : (if ((rd_T47 l0_0 a1).f3) < ((rd_T47 l0_0 a1).f2) then ((rd_T47 l0_0 a1).f3) else ((rd_T47 l0_0 a1).f2)) = ji6 := hji6
        obtain rfl := Option.some.inj H
        go_enter Try.func42, Try.ntmps42
        go_wp2_with (first | ((with_reducible refine gate_dst (N := 2) rfl ?_); (try (refine gate_guard (by rfl) ?_; dsimp only)); refine box_event ?hg (N := 2) ?hd (cs := #[.slice A0_0 l0_0.length c0_0, .slice A0_1 l0_1.length c0_1, .slice A0_2 l0_2.length c0_2]) (t := 36) ?hr ?_; (case hd => rfl); (case hg => rfl); (case hr => first | (go_simp; done) | (go_simp; rfl)); intro gb141 hg w7 hbox hb; have n0_ := Aside0.mk (below_step (by repeat (first | (with_reducible first | exact HB.out | apply below_alloc | apply pw_below_drewN | apply below_drew1) | exact HB.out)) hb); have n1_ := Aside0.mk (hbox); have n2_ := Aside0.mk ((by rw [hg]; exact (below_size (by repeat (first | (with_reducible first | exact HB.out | apply below_alloc | apply pw_below_drewN | apply below_drew1) | exact HB.out))) : w.heap.size ≤ gb141)); have n3_ := Aside0.mk ((by rw [hg]; exact (below_size (by repeat (first | (with_reducible first | exact HB.out | apply below_alloc | apply pw_below_drewN | apply below_drew1) | exact HB.out))) : w.heap.size ≤ gb141)); clear HB; have HB := n0_; have BK141 := n1_; have GW141 := n2_; have GE141 := n3_; clear n0_ n1_ n2_ n3_; clear hb hbox hg; have hcz8_0 : w7.cell? ⟨gb141, 0, none⟩ = some (.slice A0_0 l0_0.length c0_0) := (blk_cell BK141.out 0).trans rfl; have hcz8_1 : w7.cell? ⟨gb141, 1, none⟩ = some (.slice A0_1 l0_1.length c0_1) := (blk_cell BK141.out 1).trans rfl; have hcz8_2 : w7.cell? ⟨gb141, 2, none⟩ = some (.slice A0_2 l0_2.length c0_2) := (blk_cell BK141.out 2).trans rfl; have hfz8_0 := blk_frozen BK141.out 0; have hfz8_1 := blk_frozen BK141.out 1; have hfz8_2 := blk_frozen BK141.out 2; have p142 : 0 ≤ (a1 : Int) := of_decide_eq_true (by first | (with_reducible assumption) | assumption); have q142 : a1 < (l0_0.length : Int) := of_decide_eq_true (by first | (with_reducible assumption) | assumption); obtain ⟨ad142, e142, hx142_0, hx142_1, hx142_2, hx142_3⟩ := at_T47 HR0_0.out a1 p142 q142; cases e142; replace hx142_0 := (HB.out.cell (World.block_lt_of_cell? w _ hx142_0)).trans hx142_0; replace hx142_1 := (HB.out.cell (World.block_lt_of_cell? w _ hx142_1)).trans hx142_1; replace hx142_2 := (HB.out.cell (World.block_lt_of_cell? w _ hx142_2)).trans hx142_2; replace hx142_3 := (HB.out.cell (World.block_lt_of_cell? w _ hx142_3)).trans hx142_3; replace p142 := eq_true p142; replace q142 := eq_true q142; have p143 : 0 ≤ (a1 : Int) := of_decide_eq_true (by first | (with_reducible assumption) | assumption); have q143 : a1 < (l0_0.length : Int) := of_decide_eq_true (by first | (with_reducible assumption) | assumption); obtain ⟨ad143, e143, hx143_0, hx143_1, hx143_2, hx143_3⟩ := at_T47 HR0_0.out a1 p143 q143; obtain rfl : ad142 = ad143 := (by injection e143); replace hx143_0 := (HB.out.cell (World.block_lt_of_cell? w _ hx143_0)).trans hx143_0; replace hx143_1 := (HB.out.cell (World.block_lt_of_cell? w _ hx143_1)).trans hx143_1; replace hx143_2 := (HB.out.cell (World.block_lt_of_cell? w _ hx143_2)).trans hx143_2; replace hx143_3 := (HB.out.cell (World.block_lt_of_cell? w _ hx143_3)).trans hx143_3; replace p143 := eq_true p143; replace q143 := eq_true q143))
        repeat (go_quiet (first | ((with_reducible refine gate_dst (N := 2) rfl ?_); (try (refine gate_guard (by rfl) ?_; dsimp only)); refine box_event ?hg (N := 2) ?hd (cs := #[.slice A0_0 l0_0.length c0_0, .slice A0_1 l0_1.length c0_1, .slice A0_2 l0_2.length c0_2]) (t := 36) ?hr ?_; (case hd => rfl); (case hg => rfl); (case hr => first | (go_simp; done) | (go_simp; rfl)); intro gb141 hg w7 hbox hb; have n0_ := Aside0.mk (below_step (by repeat (first | (with_reducible first | exact HB.out | apply below_alloc | apply pw_below_drewN | apply below_drew1) | exact HB.out)) hb); have n1_ := Aside0.mk (hbox); have n2_ := Aside0.mk ((by rw [hg]; exact (below_size (by repeat (first | (with_reducible first | exact HB.out | apply below_alloc | apply pw_below_drewN | apply below_drew1) | exact HB.out))) : w.heap.size ≤ gb141)); have n3_ := Aside0.mk ((by rw [hg]; exact (below_size (by repeat (first | (with_reducible first | exact HB.out | apply below_alloc | apply pw_below_drewN | apply below_drew1) | exact HB.out))) : w.heap.size ≤ gb141)); clear HB; have HB := n0_; have BK141 := n1_; have GW141 := n2_; have GE141 := n3_; clear n0_ n1_ n2_ n3_; clear hb hbox hg; have hcz8_0 : w7.cell? ⟨gb141, 0, none⟩ = some (.slice A0_0 l0_0.length c0_0) := (blk_cell BK141.out 0).trans rfl; have hcz8_1 : w7.cell? ⟨gb141, 1, none⟩ = some (.slice A0_1 l0_1.length c0_1) := (blk_cell BK141.out 1).trans rfl; have hcz8_2 : w7.cell? ⟨gb141, 2, none⟩ = some (.slice A0_2 l0_2.length c0_2) := (blk_cell BK141.out 2).trans rfl; have hfz8_0 := blk_frozen BK141.out 0; have hfz8_1 := blk_frozen BK141.out 1; have hfz8_2 := blk_frozen BK141.out 2; have p142 : 0 ≤ (a1 : Int) := of_decide_eq_true (by first | (with_reducible assumption) | assumption); have q142 : a1 < (l0_0.length : Int) := of_decide_eq_true (by first | (with_reducible assumption) | assumption); obtain ⟨ad142, e142, hx142_0, hx142_1, hx142_2, hx142_3⟩ := at_T47 HR0_0.out a1 p142 q142; cases e142; replace hx142_0 := (HB.out.cell (World.block_lt_of_cell? w _ hx142_0)).trans hx142_0; replace hx142_1 := (HB.out.cell (World.block_lt_of_cell? w _ hx142_1)).trans hx142_1; replace hx142_2 := (HB.out.cell (World.block_lt_of_cell? w _ hx142_2)).trans hx142_2; replace hx142_3 := (HB.out.cell (World.block_lt_of_cell? w _ hx142_3)).trans hx142_3; replace p142 := eq_true p142; replace q142 := eq_true q142; have p143 : 0 ≤ (a1 : Int) := of_decide_eq_true (by first | (with_reducible assumption) | assumption); have q143 : a1 < (l0_0.length : Int) := of_decide_eq_true (by first | (with_reducible assumption) | assumption); obtain ⟨ad143, e143, hx143_0, hx143_1, hx143_2, hx143_3⟩ := at_T47 HR0_0.out a1 p143 q143; obtain rfl : ad142 = ad143 := (by injection e143); replace hx143_0 := (HB.out.cell (World.block_lt_of_cell? w _ hx143_0)).trans hx143_0; replace hx143_1 := (HB.out.cell (World.block_lt_of_cell? w _ hx143_1)).trans hx143_1; replace hx143_2 := (HB.out.cell (World.block_lt_of_cell? w _ hx143_2)).trans hx143_2; replace hx143_3 := (HB.out.cell (World.block_lt_of_cell? w _ hx143_3)).trans hx143_3; replace p143 := eq_true p143; replace q143 := eq_true q143)); try go_wp2_with (first | ((with_reducible refine gate_dst (N := 2) rfl ?_); (try (refine gate_guard (by rfl) ?_; dsimp only)); refine box_event ?hg (N := 2) ?hd (cs := #[.slice A0_0 l0_0.length c0_0, .slice A0_1 l0_1.length c0_1, .slice A0_2 l0_2.length c0_2]) (t := 36) ?hr ?_; (case hd => rfl); (case hg => rfl); (case hr => first | (go_simp; done) | (go_simp; rfl)); intro gb141 hg w7 hbox hb; have n0_ := Aside0.mk (below_step (by repeat (first | (with_reducible first | exact HB.out | apply below_alloc | apply pw_below_drewN | apply below_drew1) | exact HB.out)) hb); have n1_ := Aside0.mk (hbox); have n2_ := Aside0.mk ((by rw [hg]; exact (below_size (by repeat (first | (with_reducible first | exact HB.out | apply below_alloc | apply pw_below_drewN | apply below_drew1) | exact HB.out))) : w.heap.size ≤ gb141)); have n3_ := Aside0.mk ((by rw [hg]; exact (below_size (by repeat (first | (with_reducible first | exact HB.out | apply below_alloc | apply pw_below_drewN | apply below_drew1) | exact HB.out))) : w.heap.size ≤ gb141)); clear HB; have HB := n0_; have BK141 := n1_; have GW141 := n2_; have GE141 := n3_; clear n0_ n1_ n2_ n3_; clear hb hbox hg; have hcz8_0 : w7.cell? ⟨gb141, 0, none⟩ = some (.slice A0_0 l0_0.length c0_0) := (blk_cell BK141.out 0).trans rfl; have hcz8_1 : w7.cell? ⟨gb141, 1, none⟩ = some (.slice A0_1 l0_1.length c0_1) := (blk_cell BK141.out 1).trans rfl; have hcz8_2 : w7.cell? ⟨gb141, 2, none⟩ = some (.slice A0_2 l0_2.length c0_2) := (blk_cell BK141.out 2).trans rfl; have hfz8_0 := blk_frozen BK141.out 0; have hfz8_1 := blk_frozen BK141.out 1; have hfz8_2 := blk_frozen BK141.out 2; have p142 : 0 ≤ (a1 : Int) := of_decide_eq_true (by first | (with_reducible assumption) | assumption); have q142 : a1 < (l0_0.length : Int) := of_decide_eq_true (by first | (with_reducible assumption) | assumption); obtain ⟨ad142, e142, hx142_0, hx142_1, hx142_2, hx142_3⟩ := at_T47 HR0_0.out a1 p142 q142; cases e142; replace hx142_0 := (HB.out.cell (World.block_lt_of_cell? w _ hx142_0)).trans hx142_0; replace hx142_1 := (HB.out.cell (World.block_lt_of_cell? w _ hx142_1)).trans hx142_1; replace hx142_2 := (HB.out.cell (World.block_lt_of_cell? w _ hx142_2)).trans hx142_2; replace hx142_3 := (HB.out.cell (World.block_lt_of_cell? w _ hx142_3)).trans hx142_3; replace p142 := eq_true p142; replace q142 := eq_true q142; have p143 : 0 ≤ (a1 : Int) := of_decide_eq_true (by first | (with_reducible assumption) | assumption); have q143 : a1 < (l0_0.length : Int) := of_decide_eq_true (by first | (with_reducible assumption) | assumption); obtain ⟨ad143, e143, hx143_0, hx143_1, hx143_2, hx143_3⟩ := at_T47 HR0_0.out a1 p143 q143; obtain rfl : ad142 = ad143 := (by injection e143); replace hx143_0 := (HB.out.cell (World.block_lt_of_cell? w _ hx143_0)).trans hx143_0; replace hx143_1 := (HB.out.cell (World.block_lt_of_cell? w _ hx143_1)).trans hx143_1; replace hx143_2 := (HB.out.cell (World.block_lt_of_cell? w _ hx143_2)).trans hx143_2; replace hx143_3 := (HB.out.cell (World.block_lt_of_cell? w _ hx143_3)).trans hx143_3; replace p143 := eq_true p143; replace q143 := eq_true q143)))
        go_ret
        exact ⟨by first | rfl | (simp [errW_none, errW_some] <;> rfl) | (simp only [← hji6]; first | rfl | (simp [errW_none, errW_some] <;> rfl)) | (simp [*, errW_none, errW_some] <;> rfl), by repeat (first | (with_reducible first | exact HB.out | apply below_alloc | apply pw_below_drewN | apply below_drew1 | refine below_set ?_ GE141.out) | exact HB.out)⟩
      · rw [if_neg c5] at H
        exact absurd H (by simp)
    · rw [if_neg c4] at H
      have c4b0 : decide (a1 < (l0_0.length : Int)) = false := decide_eq_false c4
      clear c4
      obtain rfl := Option.some.inj H
      go_enter Try.func42, Try.ntmps42
      go_wp2_with (first | ((with_reducible refine gate_dst (N := 2) rfl ?_); (try (refine gate_guard (by rfl) ?_; dsimp only)); refine box_event ?hg (N := 2) ?hd (cs := #[.slice A0_0 l0_0.length c0_0, .slice A0_1 l0_1.length c0_1, .slice A0_2 l0_2.length c0_2]) (t := 36) ?hr ?_; (case hd => rfl); (case hg => rfl); (case hr => first | (go_simp; done) | (go_simp; rfl)); intro gb141 hg w9 hbox hb; have n0_ := Aside0.mk (below_step (by repeat (first | (with_reducible first | exact HB.out | apply below_alloc | apply pw_below_drewN | apply below_drew1) | exact HB.out)) hb); have n1_ := Aside0.mk (hbox); have n2_ := Aside0.mk ((by rw [hg]; exact (below_size (by repeat (first | (with_reducible first | exact HB.out | apply below_alloc | apply pw_below_drewN | apply below_drew1) | exact HB.out))) : w.heap.size ≤ gb141)); have n3_ := Aside0.mk ((by rw [hg]; exact (below_size (by repeat (first | (with_reducible first | exact HB.out | apply below_alloc | apply pw_below_drewN | apply below_drew1) | exact HB.out))) : w.heap.size ≤ gb141)); clear HB; have HB := n0_; have BK141 := n1_; have GW141 := n2_; have GE141 := n3_; clear n0_ n1_ n2_ n3_; clear hb hbox hg; have hcz10_0 : w9.cell? ⟨gb141, 0, none⟩ = some (.slice A0_0 l0_0.length c0_0) := (blk_cell BK141.out 0).trans rfl; have hcz10_1 : w9.cell? ⟨gb141, 1, none⟩ = some (.slice A0_1 l0_1.length c0_1) := (blk_cell BK141.out 1).trans rfl; have hcz10_2 : w9.cell? ⟨gb141, 2, none⟩ = some (.slice A0_2 l0_2.length c0_2) := (blk_cell BK141.out 2).trans rfl; have hfz10_0 := blk_frozen BK141.out 0; have hfz10_1 := blk_frozen BK141.out 1; have hfz10_2 := blk_frozen BK141.out 2))
      repeat (go_quiet (first | ((with_reducible refine gate_dst (N := 2) rfl ?_); (try (refine gate_guard (by rfl) ?_; dsimp only)); refine box_event ?hg (N := 2) ?hd (cs := #[.slice A0_0 l0_0.length c0_0, .slice A0_1 l0_1.length c0_1, .slice A0_2 l0_2.length c0_2]) (t := 36) ?hr ?_; (case hd => rfl); (case hg => rfl); (case hr => first | (go_simp; done) | (go_simp; rfl)); intro gb141 hg w9 hbox hb; have n0_ := Aside0.mk (below_step (by repeat (first | (with_reducible first | exact HB.out | apply below_alloc | apply pw_below_drewN | apply below_drew1) | exact HB.out)) hb); have n1_ := Aside0.mk (hbox); have n2_ := Aside0.mk ((by rw [hg]; exact (below_size (by repeat (first | (with_reducible first | exact HB.out | apply below_alloc | apply pw_below_drewN | apply below_drew1) | exact HB.out))) : w.heap.size ≤ gb141)); have n3_ := Aside0.mk ((by rw [hg]; exact (below_size (by repeat (first | (with_reducible first | exact HB.out | apply below_alloc | apply pw_below_drewN | apply below_drew1) | exact HB.out))) : w.heap.size ≤ gb141)); clear HB; have HB := n0_; have BK141 := n1_; have GW141 := n2_; have GE141 := n3_; clear n0_ n1_ n2_ n3_; clear hb hbox hg; have hcz10_0 : w9.cell? ⟨gb141, 0, none⟩ = some (.slice A0_0 l0_0.length c0_0) := (blk_cell BK141.out 0).trans rfl; have hcz10_1 : w9.cell? ⟨gb141, 1, none⟩ = some (.slice A0_1 l0_1.length c0_1) := (blk_cell BK141.out 1).trans rfl; have hcz10_2 : w9.cell? ⟨gb141, 2, none⟩ = some (.slice A0_2 l0_2.length c0_2) := (blk_cell BK141.out 2).trans rfl; have hfz10_0 := blk_frozen BK141.out 0; have hfz10_1 := blk_frozen BK141.out 1; have hfz10_2 := blk_frozen BK141.out 2)); try go_wp2_with (first | ((with_reducible refine gate_dst (N := 2) rfl ?_); (try (refine gate_guard (by rfl) ?_; dsimp only)); refine box_event ?hg (N := 2) ?hd (cs := #[.slice A0_0 l0_0.length c0_0, .slice A0_1 l0_1.length c0_1, .slice A0_2 l0_2.length c0_2]) (t := 36) ?hr ?_; (case hd => rfl); (case hg => rfl); (case hr => first | (go_simp; done) | (go_simp; rfl)); intro gb141 hg w9 hbox hb; have n0_ := Aside0.mk (below_step (by repeat (first | (with_reducible first | exact HB.out | apply below_alloc | apply pw_below_drewN | apply below_drew1) | exact HB.out)) hb); have n1_ := Aside0.mk (hbox); have n2_ := Aside0.mk ((by rw [hg]; exact (below_size (by repeat (first | (with_reducible first | exact HB.out | apply below_alloc | apply pw_below_drewN | apply below_drew1) | exact HB.out))) : w.heap.size ≤ gb141)); have n3_ := Aside0.mk ((by rw [hg]; exact (below_size (by repeat (first | (with_reducible first | exact HB.out | apply below_alloc | apply pw_below_drewN | apply below_drew1) | exact HB.out))) : w.heap.size ≤ gb141)); clear HB; have HB := n0_; have BK141 := n1_; have GW141 := n2_; have GE141 := n3_; clear n0_ n1_ n2_ n3_; clear hb hbox hg; have hcz10_0 : w9.cell? ⟨gb141, 0, none⟩ = some (.slice A0_0 l0_0.length c0_0) := (blk_cell BK141.out 0).trans rfl; have hcz10_1 : w9.cell? ⟨gb141, 1, none⟩ = some (.slice A0_1 l0_1.length c0_1) := (blk_cell BK141.out 1).trans rfl; have hcz10_2 : w9.cell? ⟨gb141, 2, none⟩ = some (.slice A0_2 l0_2.length c0_2) := (blk_cell BK141.out 2).trans rfl; have hfz10_0 := blk_frozen BK141.out 0; have hfz10_1 := blk_frozen BK141.out 1; have hfz10_2 := blk_frozen BK141.out 2)))
      go_ret
      exact ⟨by first | rfl | (simp [errW_none, errW_some] <;> rfl) | (simp [*, errW_none, errW_some] <;> rfl), by repeat (first | (with_reducible first | exact HB.out | apply below_alloc | apply pw_below_drewN | apply below_drew1 | refine below_set ?_ GE141.out) | exact HB.out)⟩
  · rw [if_neg c3] at H
    have c3b0 : decide (0 ≤ a1) = false := decide_eq_false c3
    clear c3
    obtain rfl := Option.some.inj H
    go_enter Try.func42, Try.ntmps42
    go_wp2_with (first | ((with_reducible refine gate_dst (N := 2) rfl ?_); (try (refine gate_guard (by rfl) ?_; dsimp only)); refine box_event ?hg (N := 2) ?hd (cs := #[.slice A0_0 l0_0.length c0_0, .slice A0_1 l0_1.length c0_1, .slice A0_2 l0_2.length c0_2]) (t := 36) ?hr ?_; (case hd => rfl); (case hg => rfl); (case hr => first | (go_simp; done) | (go_simp; rfl)); intro gb141 hg w11 hbox hb; have n0_ := Aside0.mk (below_step (by repeat (first | (with_reducible first | exact HB.out | apply below_alloc | apply pw_below_drewN | apply below_drew1) | exact HB.out)) hb); have n1_ := Aside0.mk (hbox); have n2_ := Aside0.mk ((by rw [hg]; exact (below_size (by repeat (first | (with_reducible first | exact HB.out | apply below_alloc | apply pw_below_drewN | apply below_drew1) | exact HB.out))) : w.heap.size ≤ gb141)); have n3_ := Aside0.mk ((by rw [hg]; exact (below_size (by repeat (first | (with_reducible first | exact HB.out | apply below_alloc | apply pw_below_drewN | apply below_drew1) | exact HB.out))) : w.heap.size ≤ gb141)); clear HB; have HB := n0_; have BK141 := n1_; have GW141 := n2_; have GE141 := n3_; clear n0_ n1_ n2_ n3_; clear hb hbox hg))
    repeat (go_quiet (first | ((with_reducible refine gate_dst (N := 2) rfl ?_); (try (refine gate_guard (by rfl) ?_; dsimp only)); refine box_event ?hg (N := 2) ?hd (cs := #[.slice A0_0 l0_0.length c0_0, .slice A0_1 l0_1.length c0_1, .slice A0_2 l0_2.length c0_2]) (t := 36) ?hr ?_; (case hd => rfl); (case hg => rfl); (case hr => first | (go_simp; done) | (go_simp; rfl)); intro gb141 hg w11 hbox hb; have n0_ := Aside0.mk (below_step (by repeat (first | (with_reducible first | exact HB.out | apply below_alloc | apply pw_below_drewN | apply below_drew1) | exact HB.out)) hb); have n1_ := Aside0.mk (hbox); have n2_ := Aside0.mk ((by rw [hg]; exact (below_size (by repeat (first | (with_reducible first | exact HB.out | apply below_alloc | apply pw_below_drewN | apply below_drew1) | exact HB.out))) : w.heap.size ≤ gb141)); have n3_ := Aside0.mk ((by rw [hg]; exact (below_size (by repeat (first | (with_reducible first | exact HB.out | apply below_alloc | apply pw_below_drewN | apply below_drew1) | exact HB.out))) : w.heap.size ≤ gb141)); clear HB; have HB := n0_; have BK141 := n1_; have GW141 := n2_; have GE141 := n3_; clear n0_ n1_ n2_ n3_; clear hb hbox hg)); try go_wp2_with (first | ((with_reducible refine gate_dst (N := 2) rfl ?_); (try (refine gate_guard (by rfl) ?_; dsimp only)); refine box_event ?hg (N := 2) ?hd (cs := #[.slice A0_0 l0_0.length c0_0, .slice A0_1 l0_1.length c0_1, .slice A0_2 l0_2.length c0_2]) (t := 36) ?hr ?_; (case hd => rfl); (case hg => rfl); (case hr => first | (go_simp; done) | (go_simp; rfl)); intro gb141 hg w11 hbox hb; have n0_ := Aside0.mk (below_step (by repeat (first | (with_reducible first | exact HB.out | apply below_alloc | apply pw_below_drewN | apply below_drew1) | exact HB.out)) hb); have n1_ := Aside0.mk (hbox); have n2_ := Aside0.mk ((by rw [hg]; exact (below_size (by repeat (first | (with_reducible first | exact HB.out | apply below_alloc | apply pw_below_drewN | apply below_drew1) | exact HB.out))) : w.heap.size ≤ gb141)); have n3_ := Aside0.mk ((by rw [hg]; exact (below_size (by repeat (first | (with_reducible first | exact HB.out | apply below_alloc | apply pw_below_drewN | apply below_drew1) | exact HB.out))) : w.heap.size ≤ gb141)); clear HB; have HB := n0_; have BK141 := n1_; have GW141 := n2_; have GE141 := n3_; clear n0_ n1_ n2_ n3_; clear hb hbox hg)))
    go_ret
    exact ⟨by first | rfl | (simp [errW_none, errW_some] <;> rfl) | (simp [*, errW_none, errW_some] <;> rfl), by repeat (first | (with_reducible first | exact HB.out | apply below_alloc | apply pw_below_drewN | apply below_drew1 | refine below_set ?_ GE141.out) | exact HB.out)⟩
def slices_Index_int_int.l0 : Nat → List Int → Int → Int → Int → Option (Int)
  | 0, _, _, _, _ => none
  | k + 1, x0, x1, x7, x8 => if x8 < x7 then (if 0 ≤ x8 then (if x8 < (x0.length : Int) then (if x1 = (rd x0 x8) then (some x8) else (slices_Index_int_int.l0 k x0 x1 x7 (wrap64 (x8 + 1)))) else (none)) else (none)) else (some (-1))
def slices_Index_int_int.f (k : Nat) (l0 : List Int) (a1 : Int) : Option (Int) := slices_Index_int_int.l0 k l0 a1 (l0.length : Int) 0
set_option maxHeartbeats 8000000 in
set_option maxRecDepth 100000 in
theorem slices_Index_int_int.calls (k : Nat) (A0 : Option Addr) (c0 : Nat) (l0 : List Int) (a1 : Int) (r : Int) (w : World) (hr0 : Kd.C (Kd.int .i64) w A0 l0.length l0) (hc0 : l0.length ≤ c0) (h : slices_Index_int_int.f k l0 a1 = some r) :
    Calls Try.prog 75 #[.slice A0 l0.length c0, .int .i64 a1] w fun e w' => e = .returned (.int .i64 r) ∧ Drawn0 w w' := by
  have HR0 := Aside0.mk hr0
  have HC0 := Aside0.mk hc0
  clear hr0 hc0
  have H : (slices_Index_int_int.l0 k l0 a1 (l0.length : Int) 0) = some r := h
  clear h
  have H' := Aside0.mk H
  clear H
  go_enter Try.func75, Try.ntmps75
  go_wp2
  go_loopg [8] k (fun kq v8 w' => ∃ (x8_1 : Int), v8 = .int .i64 x8_1 ∧ Aside0 (slices_Index_int_int.l0 kq l0 a1 (l0.length : Int) x8_1 = some r) ∧ Aside0 (kq ≤ k) ∧ Drawn0 w w')
  case atStart => exact ⟨(0), (by first | rfl | (simp; done) | (simp [*]; done)), H', ⟨Nat.le_refl _⟩, by repeat (first | exact Drawn0.refl _ | apply Drawn0.step)⟩
  case round =>
    clear H'
    try clear p2
    obtain ⟨x8_1, rfl, HA, HK1, ⟨m1, rfl⟩⟩ := hrel
    cases gk with
    | zero => exact absurd HA.out (by simp [slices_Index_int_int.l0])
    | succ k1 =>
      have H := HA.out
      clear HA
      simp only [slices_Index_int_int.l0] at H
      by_cases c3 : x8_1 < (l0.length : Int)
      · rw [if_pos c3] at H
        have c3b0 : decide (x8_1 < (l0.length : Int)) = true := decide_eq_true c3
        clear c3
        by_cases c4 : 0 ≤ x8_1
        · rw [if_pos c4] at H
          have c4b0 : decide (0 ≤ x8_1) = true := decide_eq_true c4
          clear c4
          by_cases c5 : x8_1 < (l0.length : Int)
          · rw [if_pos c5] at H
            have c5b0 : decide (x8_1 < (l0.length : Int)) = true := decide_eq_true c5
            clear c5
            by_cases c6 : a1 = (rd l0 x8_1)
            · rw [if_pos c6] at H
              have c6b0 : (a1 == (rd l0 x8_1)) = true := beq_iff_eq.mpr c6
              have c6b1 : (a1 != (rd l0 x8_1)) = false := bne_eq_false_iff_eq.mpr c6
              clear c6
              obtain rfl := Option.some.inj H
              have p144 : 0 ≤ (x8_1 : Int) := of_decide_eq_true (by first | (with_reducible assumption) | assumption)
              have q144 : x8_1 < (l0.length : Int) := of_decide_eq_true (by first | (with_reducible assumption) | assumption)
              obtain ⟨ad144, e144, hx144_0⟩ := Kd.at_int HR0.out x8_1 p144 q144
              cases e144
              replace p144 := eq_true p144
              replace q144 := eq_true q144
              go_wp2
              go_ret
              exact ⟨by first | rfl | (simp; done) | (simp [*]; done), by repeat (first | exact Drawn0.refl _ | apply Drawn0.step)⟩
            · rw [if_neg c6] at H
              have c6b0 : (a1 == (rd l0 x8_1)) = false := beq_eq_false_iff_ne.mpr c6
              have c6b1 : (a1 != (rd l0 x8_1)) = true := bne_iff_ne.mpr c6
              have H' := Aside0.mk H
              clear H
              have p144 : 0 ≤ (x8_1 : Int) := of_decide_eq_true (by first | (with_reducible assumption) | assumption)
              have q144 : x8_1 < (l0.length : Int) := of_decide_eq_true (by first | (with_reducible assumption) | assumption)
              obtain ⟨ad144, e144, hx144_0⟩ := Kd.at_int HR0.out x8_1 p144 q144
              cases e144
              replace p144 := eq_true p144
              replace q144 := eq_true q144
              go_wp2
              go_roundg k1
              case measure => have := HK1.out; omega
              case rel => exact ⟨(wrap64 (x8_1 + 1)), (by first | rfl | (simp; done) | (simp [*]; done)), H', ⟨by have := HK1.out; omega⟩, by repeat (first | exact Drawn0.refl _ | apply Drawn0.step)⟩
          · rw [if_neg c5] at H
            exact absurd H (by simp)
        · rw [if_neg c4] at H
          exact absurd H (by simp)
      · rw [if_neg c3] at H
        have c3b0 : decide (x8_1 < (l0.length : Int)) = false := decide_eq_false c3
        clear c3
        obtain rfl := Option.some.inj H
        go_wp2
        go_ret
        exact ⟨by first | rfl | (simp; done) | (simp [*]; done), by repeat (first | exact Drawn0.refl _ | apply Drawn0.step)⟩
def slices_Contains_int_int.f (k : Nat) (l0 : List Int) (a1 : Int) : Option (Bool) := (slices_Index_int_int.f k l0 a1).bind fun t145 => (some (decide (t145 ≥ 0)))
set_option maxHeartbeats 8000000 in
set_option maxRecDepth 100000 in
theorem slices_Contains_int_int.calls (k : Nat) (A0 : Option Addr) (c0 : Nat) (l0 : List Int) (a1 : Int) (r : Bool) (w : World) (hr0 : Kd.C (Kd.int .i64) w A0 l0.length l0) (hc0 : l0.length ≤ c0) (h : slices_Contains_int_int.f k l0 a1 = some r) :
    Calls Try.prog 56 #[.slice A0 l0.length c0, .int .i64 a1] w fun e w' => e = .returned (.bool r) ∧ Drawn0 w w' := by
  have HR0 := Aside0.mk hr0
  have HC0 := Aside0.mk hc0
  clear hr0 hc0
  have H : ((slices_Index_int_int.f k l0 a1).bind fun t145 => (some (decide (t145 ≥ 0)))) = some r := h
  clear h
  replace H := Option.bind_eq_some_iff.mp H
  obtain ⟨t145, A30, H⟩ := H
  replace H : (some (decide (t145 ≥ 0))) = some r := H
  have A3 := Aside0.mk A30
  clear A30
  obtain rfl := Option.some.inj H
  go_enter Try.func56, Try.ntmps56
  go_wp2_with (first | ((with_reducible refine gate_callee (f := 75) rfl ?_); refine goesL_ (some 7) rfl rfl Try.func75 (by kernel_rfl) rfl #[.slice A0 l0.length c0, .int .i64 a1] rfl (by (try simp only [List.map_toArray, List.map_cons, List.map_nil]); first | done | rfl | (simp only [List.length_drop, List.length_take]; rfl)) ?_; (with_reducible refine (slices_Index_int_int.calls k _ _ l0 a1 t145 _ ?side1 ?side2 A3.out).mono ?_); (case side1 => repeat (first | exact HR0.out | (with_reducible refine Kd.C_alloc ?_ _) | (with_reducible refine Kd.C_drewN ?_ _) | (with_reducible refine Kd.C_drew ?_))); (case side2 => exact HC0.out); rintro e w' ⟨rfl, ⟨nd, rfl⟩⟩; refine ⟨_, rfl, ?_⟩))
  go_ret
  exact ⟨by first | rfl | (simp; done) | (simp [*]; done), by repeat (first | exact Drawn0.refl _ | apply Drawn0.step)⟩
def cmp_Or_int.l0 : Nat → Int → List Int → Int → Int → Option (Int)
  | 0, _, _, _, _ => none
  | k + 1, x3, x6, x7, x8 => if x8 < x7 then (if 0 ≤ x8 then (if x8 < (x6.length : Int) then (if (rd x6 x8) = x3 then (cmp_Or_int.l0 k x3 x6 x7 (wrap64 (x8 + 1))) else (some (rd x6 x8))) else (none)) else (none)) else (some x3)
def cmp_Or_int.f (k : Nat) (l0 : List Int) : Option (Int) := cmp_Or_int.l0 k 0 l0 (l0.length : Int) 0
set_option maxHeartbeats 8000000 in
set_option maxRecDepth 100000 in
theorem cmp_Or_int.calls (k : Nat) (A0 : Option Addr) (c0 : Nat) (l0 : List Int) (r : Int) (w : World) (hr0 : Kd.C (Kd.int .i64) w A0 l0.length l0) (hc0 : l0.length ≤ c0) (h : cmp_Or_int.f k l0 = some r) :
    Calls Try.prog 61 #[.slice A0 l0.length c0] w fun e w' => e = .returned (.int .i64 r) ∧ Drawn0 w w' := by
  have HR0 := Aside0.mk hr0
  have HC0 := Aside0.mk hc0
  clear hr0 hc0
  have H : (cmp_Or_int.l0 k 0 l0 (l0.length : Int) 0) = some r := h
  clear h
  have H' := Aside0.mk H
  clear H
  go_enter Try.func61, Try.ntmps61
  go_wp2
  go_loopg [8] k (fun kq v8 w' => ∃ (x8_1 : Int), v8 = .int .i64 x8_1 ∧ Aside0 (cmp_Or_int.l0 kq 0 l0 (l0.length : Int) x8_1 = some r) ∧ Aside0 (kq ≤ k) ∧ Drawn0 w w')
  case atStart => exact ⟨(0), (by first | rfl | (simp; done) | (simp [*]; done)), H', ⟨Nat.le_refl _⟩, by repeat (first | exact Drawn0.refl _ | apply Drawn0.step)⟩
  case round =>
    clear H'
    obtain ⟨x8_1, rfl, HA, HK1, ⟨m1, rfl⟩⟩ := hrel
    cases gk with
    | zero => exact absurd HA.out (by simp [cmp_Or_int.l0])
    | succ k1 =>
      have H := HA.out
      clear HA
      simp only [cmp_Or_int.l0] at H
      by_cases c2 : x8_1 < (l0.length : Int)
      · rw [if_pos c2] at H
        have c2b0 : decide (x8_1 < (l0.length : Int)) = true := decide_eq_true c2
        clear c2
        by_cases c3 : 0 ≤ x8_1
        · rw [if_pos c3] at H
          have c3b0 : decide (0 ≤ x8_1) = true := decide_eq_true c3
          clear c3
          by_cases c4 : x8_1 < (l0.length : Int)
          · rw [if_pos c4] at H
            have c4b0 : decide (x8_1 < (l0.length : Int)) = true := decide_eq_true c4
            clear c4
            by_cases c5 : (rd l0 x8_1) = 0
            · rw [if_pos c5] at H
              have c5b0 : ((rd l0 x8_1) == 0) = true := beq_iff_eq.mpr c5
              have c5b1 : ((rd l0 x8_1) != 0) = false := bne_eq_false_iff_eq.mpr c5
              clear c5
              have H' := Aside0.mk H
              clear H
              have p146 : 0 ≤ (x8_1 : Int) := of_decide_eq_true (by first | (with_reducible assumption) | assumption)
              have q146 : x8_1 < (l0.length : Int) := of_decide_eq_true (by first | (with_reducible assumption) | assumption)
              obtain ⟨ad146, e146, hx146_0⟩ := Kd.at_int HR0.out x8_1 p146 q146
              cases e146
              replace p146 := eq_true p146
              replace q146 := eq_true q146
              go_wp2
              go_roundg k1
              case measure => have := HK1.out; omega
              case rel => exact ⟨(wrap64 (x8_1 + 1)), (by first | rfl | (simp; done) | (simp [*]; done)), H', ⟨by have := HK1.out; omega⟩, by repeat (first | exact Drawn0.refl _ | apply Drawn0.step)⟩
            · rw [if_neg c5] at H
              have c5b0 : ((rd l0 x8_1) == 0) = false := beq_eq_false_iff_ne.mpr c5
              have c5b1 : ((rd l0 x8_1) != 0) = true := bne_iff_ne.mpr c5
              obtain rfl := Option.some.inj H
              have p146 : 0 ≤ (x8_1 : Int) := of_decide_eq_true (by first | (with_reducible assumption) | assumption)
              have q146 : x8_1 < (l0.length : Int) := of_decide_eq_true (by first | (with_reducible assumption) | assumption)
              obtain ⟨ad146, e146, hx146_0⟩ := Kd.at_int HR0.out x8_1 p146 q146
              cases e146
              replace p146 := eq_true p146
              replace q146 := eq_true q146
              go_wp2
              go_ret
              exact ⟨by first | rfl | (simp; done) | (simp [*]; done), by repeat (first | exact Drawn0.refl _ | apply Drawn0.step)⟩
          · rw [if_neg c4] at H
            exact absurd H (by simp)
        · rw [if_neg c3] at H
          exact absurd H (by simp)
      · rw [if_neg c2] at H
        have c2b0 : decide (x8_1 < (l0.length : Int)) = false := decide_eq_false c2
        clear c2
        obtain rfl := Option.some.inj H
        go_wp2
        go_ret
        exact ⟨by first | rfl | (simp; done) | (simp [*]; done), by repeat (first | exact Drawn0.refl _ | apply Drawn0.step)⟩
def cmp_isNaN_int.f (a0 : Int) : Option (Bool) := some (a0 != a0)
set_option maxHeartbeats 8000000 in
set_option maxRecDepth 100000 in
theorem cmp_isNaN_int.calls (a0 : Int) (r : Bool) (w : World) (h : cmp_isNaN_int.f a0 = some r) :
    Calls Try.prog 78 #[.int .i64 a0] w fun e w' => e = .returned (.bool r) ∧ Drawn0 w w' := by
  have H : (some (a0 != a0)) = some r := h
  clear h
  obtain rfl := Option.some.inj H
  go_enter Try.func78, Try.ntmps78
  go_wp2
  go_ret
  exact ⟨by first | rfl | (simp; done) | (simp [*]; done), by repeat (first | exact Drawn0.refl _ | apply Drawn0.step)⟩
def cmp_Compare_int.f (a0 : Int) (a1 : Int) : Option (Int) := (cmp_isNaN_int.f a0).bind fun t147 => ((cmp_isNaN_int.f a1).bind fun t148 => (if t147 = true then (if t148 = true then (some 0) else (some (-1))) else (if t148 = true then (some 1) else (if a0 < a1 then (some (-1)) else (if a0 > a1 then (some 1) else (some 0))))))
set_option maxHeartbeats 8000000 in
set_option maxRecDepth 100000 in
theorem cmp_Compare_int.calls (a0 : Int) (a1 : Int) (r : Int) (w : World) (h : cmp_Compare_int.f a0 a1 = some r) :
    Calls Try.prog 62 #[.int .i64 a0, .int .i64 a1] w fun e w' => e = .returned (.int .i64 r) ∧ Drawn0 w w' := by
  have H : ((cmp_isNaN_int.f a0).bind fun t147 => ((cmp_isNaN_int.f a1).bind fun t148 => (if t147 = true then (if t148 = true then (some 0) else (some (-1))) else (if t148 = true then (some 1) else (if a0 < a1 then (some (-1)) else (if a0 > a1 then (some 1) else (some 0))))))) = some r := h
  clear h
  replace H := Option.bind_eq_some_iff.mp H
  obtain ⟨t147, A30, H⟩ := H
  replace H : ((cmp_isNaN_int.f a1).bind fun t148 => (if t147 = true then (if t148 = true then (some 0) else (some (-1))) else (if t148 = true then (some 1) else (if a0 < a1 then (some (-1)) else (if a0 > a1 then (some 1) else (some 0)))))) = some r := H
  have A3 := Aside0.mk A30
  clear A30
  replace H := Option.bind_eq_some_iff.mp H
  obtain ⟨t148, A40, H⟩ := H
  replace H : (if t147 = true then (if t148 = true then (some 0) else (some (-1))) else (if t148 = true then (some 1) else (if a0 < a1 then (some (-1)) else (if a0 > a1 then (some 1) else (some 0))))) = some r := H
  have A4 := Aside0.mk A40
  clear A40
  by_cases c5 : t147 = true
  · subst c5
    have H1 : (if t148 = true then (some 0) else (some (-1))) = some r := by rw [if_pos rfl] at H; exact H
    clear H
    have H := H1
    clear H1
    by_cases c6 : t148 = true
    · subst c6
      have H1 : (some 0) = some r := by rw [if_pos rfl] at H; exact H
      clear H
      have H := H1
      clear H1
      obtain rfl := Option.some.inj H
      go_enter Try.func62, Try.ntmps62
      go_wp2_with (first | ((with_reducible refine gate_callee (f := 78) rfl ?_); refine goesL_ (some 8) rfl rfl Try.func78 (by kernel_rfl) rfl #[.int .i64 a0] rfl (by (try simp only [List.map_toArray, List.map_cons, List.map_nil]); first | done | rfl | (simp only [List.length_drop, List.length_take]; rfl)) ?_; (with_reducible refine (cmp_isNaN_int.calls a0 true _ A3.out).mono ?_); rintro e w' ⟨rfl, ⟨nd, rfl⟩⟩; refine ⟨_, rfl, ?_⟩) | ((with_reducible refine gate_callee (f := 78) rfl ?_); refine goesL_ (some 10) rfl rfl Try.func78 (by kernel_rfl) rfl #[.int .i64 a1] rfl (by (try simp only [List.map_toArray, List.map_cons, List.map_nil]); first | done | rfl | (simp only [List.length_drop, List.length_take]; rfl)) ?_; (with_reducible refine (cmp_isNaN_int.calls a1 true _ A4.out).mono ?_); rintro e w' ⟨rfl, ⟨nd, rfl⟩⟩; refine ⟨_, rfl, ?_⟩))
      go_ret
      exact ⟨by first | rfl | (simp; done) | (simp [*]; done), by repeat (first | exact Drawn0.refl _ | apply Drawn0.step)⟩
    · replace c6 := Bool.eq_false_iff.mpr c6
      subst c6
      have H1 : (some (-1)) = some r := by rw [if_neg (show ¬ (false = true) by decide)] at H; exact H
      clear H
      have H := H1
      clear H1
      obtain rfl := Option.some.inj H
      go_enter Try.func62, Try.ntmps62
      go_wp2_with (first | ((with_reducible refine gate_callee (f := 78) rfl ?_); refine goesL_ (some 8) rfl rfl Try.func78 (by kernel_rfl) rfl #[.int .i64 a0] rfl (by (try simp only [List.map_toArray, List.map_cons, List.map_nil]); first | done | rfl | (simp only [List.length_drop, List.length_take]; rfl)) ?_; (with_reducible refine (cmp_isNaN_int.calls a0 true _ A3.out).mono ?_); rintro e w' ⟨rfl, ⟨nd, rfl⟩⟩; refine ⟨_, rfl, ?_⟩) | ((with_reducible refine gate_callee (f := 78) rfl ?_); refine goesL_ (some 10) rfl rfl Try.func78 (by kernel_rfl) rfl #[.int .i64 a1] rfl (by (try simp only [List.map_toArray, List.map_cons, List.map_nil]); first | done | rfl | (simp only [List.length_drop, List.length_take]; rfl)) ?_; (with_reducible refine (cmp_isNaN_int.calls a1 false _ A4.out).mono ?_); rintro e w' ⟨rfl, ⟨nd, rfl⟩⟩; refine ⟨_, rfl, ?_⟩))
      go_ret
      exact ⟨by first | rfl | (simp; done) | (simp [*]; done), by repeat (first | exact Drawn0.refl _ | apply Drawn0.step)⟩
  · replace c5 := Bool.eq_false_iff.mpr c5
    subst c5
    have H1 : (if t148 = true then (some 1) else (if a0 < a1 then (some (-1)) else (if a0 > a1 then (some 1) else (some 0)))) = some r := by rw [if_neg (show ¬ (false = true) by decide)] at H; exact H
    clear H
    have H := H1
    clear H1
    by_cases c7 : t148 = true
    · subst c7
      have H1 : (some 1) = some r := by rw [if_pos rfl] at H; exact H
      clear H
      have H := H1
      clear H1
      obtain rfl := Option.some.inj H
      go_enter Try.func62, Try.ntmps62
      go_wp2_with (first | ((with_reducible refine gate_callee (f := 78) rfl ?_); refine goesL_ (some 8) rfl rfl Try.func78 (by kernel_rfl) rfl #[.int .i64 a0] rfl (by (try simp only [List.map_toArray, List.map_cons, List.map_nil]); first | done | rfl | (simp only [List.length_drop, List.length_take]; rfl)) ?_; (with_reducible refine (cmp_isNaN_int.calls a0 false _ A3.out).mono ?_); rintro e w' ⟨rfl, ⟨nd, rfl⟩⟩; refine ⟨_, rfl, ?_⟩) | ((with_reducible refine gate_callee (f := 78) rfl ?_); refine goesL_ (some 10) rfl rfl Try.func78 (by kernel_rfl) rfl #[.int .i64 a1] rfl (by (try simp only [List.map_toArray, List.map_cons, List.map_nil]); first | done | rfl | (simp only [List.length_drop, List.length_take]; rfl)) ?_; (with_reducible refine (cmp_isNaN_int.calls a1 true _ A4.out).mono ?_); rintro e w' ⟨rfl, ⟨nd, rfl⟩⟩; refine ⟨_, rfl, ?_⟩))
      go_ret
      exact ⟨by first | rfl | (simp; done) | (simp [*]; done), by repeat (first | exact Drawn0.refl _ | apply Drawn0.step)⟩
    · replace c7 := Bool.eq_false_iff.mpr c7
      subst c7
      have H1 : (if a0 < a1 then (some (-1)) else (if a0 > a1 then (some 1) else (some 0))) = some r := by rw [if_neg (show ¬ (false = true) by decide)] at H; exact H
      clear H
      have H := H1
      clear H1
      by_cases c8 : a0 < a1
      · rw [if_pos c8] at H
        have c8b0 : decide (a0 < a1) = true := decide_eq_true c8
        clear c8
        obtain rfl := Option.some.inj H
        go_enter Try.func62, Try.ntmps62
        go_wp2_with (first | ((with_reducible refine gate_callee (f := 78) rfl ?_); refine goesL_ (some 8) rfl rfl Try.func78 (by kernel_rfl) rfl #[.int .i64 a0] rfl (by (try simp only [List.map_toArray, List.map_cons, List.map_nil]); first | done | rfl | (simp only [List.length_drop, List.length_take]; rfl)) ?_; (with_reducible refine (cmp_isNaN_int.calls a0 false _ A3.out).mono ?_); rintro e w' ⟨rfl, ⟨nd, rfl⟩⟩; refine ⟨_, rfl, ?_⟩) | ((with_reducible refine gate_callee (f := 78) rfl ?_); refine goesL_ (some 10) rfl rfl Try.func78 (by kernel_rfl) rfl #[.int .i64 a1] rfl (by (try simp only [List.map_toArray, List.map_cons, List.map_nil]); first | done | rfl | (simp only [List.length_drop, List.length_take]; rfl)) ?_; (with_reducible refine (cmp_isNaN_int.calls a1 false _ A4.out).mono ?_); rintro e w' ⟨rfl, ⟨nd, rfl⟩⟩; refine ⟨_, rfl, ?_⟩))
        go_ret
        exact ⟨by first | rfl | (simp; done) | (simp [*]; done), by repeat (first | exact Drawn0.refl _ | apply Drawn0.step)⟩
      · rw [if_neg c8] at H
        have c8b0 : decide (a0 < a1) = false := decide_eq_false c8
        clear c8
        by_cases c9 : a0 > a1
        · rw [if_pos c9] at H
          have c9b0 : decide (a1 < a0) = true := decide_eq_true c9
          clear c9
          obtain rfl := Option.some.inj H
          go_enter Try.func62, Try.ntmps62
          go_wp2_with (first | ((with_reducible refine gate_callee (f := 78) rfl ?_); refine goesL_ (some 8) rfl rfl Try.func78 (by kernel_rfl) rfl #[.int .i64 a0] rfl (by (try simp only [List.map_toArray, List.map_cons, List.map_nil]); first | done | rfl | (simp only [List.length_drop, List.length_take]; rfl)) ?_; (with_reducible refine (cmp_isNaN_int.calls a0 false _ A3.out).mono ?_); rintro e w' ⟨rfl, ⟨nd, rfl⟩⟩; refine ⟨_, rfl, ?_⟩) | ((with_reducible refine gate_callee (f := 78) rfl ?_); refine goesL_ (some 10) rfl rfl Try.func78 (by kernel_rfl) rfl #[.int .i64 a1] rfl (by (try simp only [List.map_toArray, List.map_cons, List.map_nil]); first | done | rfl | (simp only [List.length_drop, List.length_take]; rfl)) ?_; (with_reducible refine (cmp_isNaN_int.calls a1 false _ A4.out).mono ?_); rintro e w' ⟨rfl, ⟨nd, rfl⟩⟩; refine ⟨_, rfl, ?_⟩))
          go_ret
          exact ⟨by first | rfl | (simp; done) | (simp [*]; done), by repeat (first | exact Drawn0.refl _ | apply Drawn0.step)⟩
        · rw [if_neg c9] at H
          have c9b0 : decide (a1 < a0) = false := decide_eq_false c9
          clear c9
          obtain rfl := Option.some.inj H
          go_enter Try.func62, Try.ntmps62
          go_wp2_with (first | ((with_reducible refine gate_callee (f := 78) rfl ?_); refine goesL_ (some 8) rfl rfl Try.func78 (by kernel_rfl) rfl #[.int .i64 a0] rfl (by (try simp only [List.map_toArray, List.map_cons, List.map_nil]); first | done | rfl | (simp only [List.length_drop, List.length_take]; rfl)) ?_; (with_reducible refine (cmp_isNaN_int.calls a0 false _ A3.out).mono ?_); rintro e w' ⟨rfl, ⟨nd, rfl⟩⟩; refine ⟨_, rfl, ?_⟩) | ((with_reducible refine gate_callee (f := 78) rfl ?_); refine goesL_ (some 10) rfl rfl Try.func78 (by kernel_rfl) rfl #[.int .i64 a1] rfl (by (try simp only [List.map_toArray, List.map_cons, List.map_nil]); first | done | rfl | (simp only [List.length_drop, List.length_take]; rfl)) ?_; (with_reducible refine (cmp_isNaN_int.calls a1 false _ A4.out).mono ?_); rintro e w' ⟨rfl, ⟨nd, rfl⟩⟩; refine ⟨_, rfl, ?_⟩))
          go_ret
          exact ⟨by first | rfl | (simp; done) | (simp [*]; done), by repeat (first | exact Drawn0.refl _ | apply Drawn0.step)⟩
end Go.Proofs.Ytnjdjfengoaleaa.MSub
namespace Go.Proofs.Ytnjdjfengoaleaa.MSub
open Go.RowKit Go.Proofs.YtnjdjfengoaleaaW.PrintWords Go.Proofs.YtnjdjfengoaleaaW.PrintLast Go.Proofs.YtnjdjfengoaleaaW.PrintMore
set_option linter.unusedVariables false
set_option linter.unusedSimpArgs false
theorem index_loop (l : List Int) (a : Int) (hl : l.length ≤ 4611686018427387904) (d : Nat) : ∀ (k i : Nat), i ≤ l.length → l.length - i = d → d < k → a ∉ l.take i →
    slices_Index_int_int.l0 k l a (l.length : Int) (i : Int) = some (if a ∈ l then (l.idxOf a : Int) else -1) := by
  induction d with
  | zero =>
    intro k i h1 h2 h3 h4
    obtain ⟨k, rfl⟩ : ∃ m, k = m + 1 := ⟨k - 1, by omega⟩
    have : i = l.length := by omega
    subst this
    rw [List.take_length] at h4
    simp only [slices_Index_int_int.l0]
    rw [if_neg (by omega), if_neg h4]
  | succ d ih =>
    intro k i h1 h2 h3 h4
    obtain ⟨k, rfl⟩ : ∃ m, k = m + 1 := ⟨k - 1, by omega⟩
    have hlt : i < l.length := by omega
    simp only [slices_Index_int_int.l0]
    rw [if_pos (by omega), if_pos (by omega), if_pos (by omega)]
    have hrd : rd l (i : Int) = l[i] := by simp [rd, List.getD_eq_getElem?_getD, hlt]
    rw [hrd]
    by_cases e : a = l[i]
    · have hm : a ∈ l := by rw [e]; exact List.getElem_mem _
      have hx : l.idxOf a = i := by
        have hs : l = l.take i ++ l.drop i := (List.take_append_drop i l).symm
        rw [hs, List.idxOf_append, if_neg h4, List.drop_eq_getElem_cons hlt, List.length_take, ← e]
        simp
        omega
      rw [if_pos e, if_pos hm, hx]
    · rw [if_neg e]
      have hw : wrap64 ((i : Int) + 1) = ((i + 1 : Nat) : Int) := by unfold wrap64; omega
      rw [hw]
      refine ih k (i + 1) (by omega) (by omega) (by omega) ?_
      rw [List.take_succ_eq_append_getElem hlt]
      intro hmem
      rcases List.mem_append.1 hmem with hmem | hmem
      · exact h4 hmem
      · exact e (by simpa using hmem)
theorem index_spec (l : List Int) (a : Int) (hl : l.length ≤ 4611686018427387904) : slices_Index_int_int.f (l.length + 1) l a = some (if a ∈ l then (l.idxOf a : Int) else -1) := by
  unfold slices_Index_int_int.f
  have := index_loop l a hl l.length (l.length + 1) 0 (by omega) (by omega) (by omega) (by simp)
  simpa using this
def bes (fc : List Int) (v b : Int) : Int := rd fc (((fc.idxOf v : Int) + b) % fc.length)
set_option maxHeartbeats 1000000 in
set_option maxRecDepth 100000 in
theorem beside_calls (w : World) (sb : Nat) (A : Option Addr) (c : Nat) (F : List (List Int)) (f v b : Int)
    (h0 : w.cell? ⟨sb, 0, none⟩ = some (.slice A F.length c)) (hF : Kd.C (Kd.slice 3 (Kd.int .i64)) w A F.length F) (hf0 : 0 ≤ f) (hf1 : f < F.length) (hv : v ∈ fcAt F f)
    (hlen : (fcAt F f).length ≤ 1099511627776) (hb0 : -1 ≤ b) (hb1 : b ≤ 1) :
    Calls Try.prog 63 #[.pointer (some ⟨sb, 0, none⟩), .int .i64 f, .int .i64 v, .int .i64 b] w fun e w' => e = .returned (.int .i64 (bes (fcAt F f) v b)) ∧ Drawn0 w w' := by
  obtain ⟨ad, A0, c0, rfl, hc1, hl0, hC⟩ := at_face hF f hf0 hf1
  generalize hfc : fcAt F f = fc at *
  have hlt := List.idxOf_lt_length_of_mem hv
  have hix := index_spec fc v (by omega)
  rw [if_pos hv] at hix
  unfold bes
  generalize hi : fc.idxOf v = i at *
  have hcall := slices_Index_int_int.calls (fc.length + 1) A0 c0 fc v _ w hC hl0 hix
  have hm0 : 0 ≤ ((i : Int) + b) % fc.length := Int.emod_nonneg _ (by omega)
  have hm1 : ((i : Int) + b) % fc.length < fc.length := Int.emod_lt_of_pos _ (by omega)
  obtain ⟨ad2, rfl, hc2⟩ := Kd.at_int hC _ hm0 hm1
  have hlp : 0 < fc.length := by omega
  have hm : fc.length ≠ 0 := by omega
  clear hF hC hix hi hfc hv
  have HC := Aside0.mk hcall
  clear hcall
  go_enter Try.func63, Try.ntmps63
  go_wp2_with fail
  refine HC.out.mono ?_
  rintro e w' ⟨rfl, hd⟩
  obtain ⟨n, rfl⟩ := hd.out
  clear hd HC
  go_wp2
  go_ret
  exact ⟨rfl, ⟨⟨n, rfl⟩⟩⟩
end Go.Proofs.Ytnjdjfengoaleaa.MSub
namespace Go.Proofs.Ytnjdjfengoaleaa.MSub
open Go.RowKit Go.Proofs.YtnjdjfengoaleaaW.PrintWords Go.Proofs.YtnjdjfengoaleaaW.PrintLast Go.Proofs.YtnjdjfengoaleaaW.PrintMore
set_option linter.unusedVariables false
set_option linter.unusedSimpArgs false
def CellsKept (w w1 : World) : Prop := ∀ a v, w.cell? a = some v → w1.cell? a = some v
theorem CellsKept.trans {a b c : World} (h : CellsKept a b) (k : CellsKept b c) : CellsKept a c := fun _ _ e => k _ _ (h _ _ e)
theorem CellsKept.of_below {w w1 : World} (h : Below w.heap.size w w1) : CellsKept w w1 := fun a v e => (h.cell (World.block_lt_of_cell? w a e)).trans e
theorem block_not_map {w : World} {m : Nat} {L : List WF} (h : IsMap w m L) {a : Addr} {v : Value} (e : w.cell? a = some v) : a.block ≠ m := by
  intro he
  unfold World.cell? at e
  rw [he, h.at_] at e
  cases e
theorem CellsKept.of_grown {w w1 : World} {m : Nat} {L : List WF} (h : IsMap w m L) (hg : w.grownBy w1 (some m)) : CellsKept w w1 := fun a v e => by
  have hl := World.block_lt_of_cell? w a e
  have hne := block_not_map h e
  rw [World.cell?_of_block (hg.block a.block hl (by intro he; exact hne (Option.some.inj he)))]
  exact e
theorem reads_kept {α : Type} {R R' : α → List Value → Prop} {size : Nat} {w w1 : World} {A : Option Addr} {n : Nat} {ps : List α} (h : ReadsRow R size w A n ps) (hk : CellsKept w w1) (hR : ∀ p c, R p c → R' p c) : ReadsRow R' size w1 A n ps :=
  ⟨h.1, h.2.1, fun hn => by
    obtain ⟨ad, e, hc⟩ := h.2.2 hn
    refine ⟨ad, e, fun j p hj => ?_⟩
    obtain ⟨c, hs, hr, hcell⟩ := hc j p hj
    exact ⟨c, hs, hR _ _ hr, fun i u hu => hk _ _ (hcell i u hu)⟩⟩
theorem ways_kept {w w1 : World} {A : Option Addr} {n : Nat} {xs : List S115} (h : Kd.C k115 w A n xs) (hk : CellsKept w w1) : Kd.C k115 w1 A n xs := reads_kept h hk (fun _ _ h => h)
theorem contains_spec (l : List Int) (a : Int) (hl : l.length ≤ 4611686018427387904) : slices_Contains_int_int.f (l.length + 1) l a = some (decide (a ∈ l)) := by
  unfold slices_Contains_int_int.f
  rw [index_spec l a hl]
  simp only [Option.bind_some]
  by_cases h : a ∈ l
  · simp [h]
  · simp [h]
def wayAt (fc : List Int) (i : Nat) : S115 := ⟨rd fc i, rd fc ((i + 1) % fc.length : Nat)⟩
def waysS (fc : List Int) : List S115 := (List.range fc.length).map (wayAt fc)
theorem waysS_len (fc : List Int) : (waysS fc).length = fc.length := by simp [waysS]
theorem ways_loop (fc : List Int) (hl : fc.length ≤ 1099511627776) (d : Nat) : ∀ (k i : Nat), i ≤ fc.length → fc.length - i = d → d < k →
    topo_ways.l0 k fc ((List.range i).map (wayAt fc)) fc (fc.length : Int) (i : Int) = some (waysS fc) := by
  induction d with
  | zero =>
    intro k i h1 h2 h3
    obtain ⟨k, rfl⟩ : ∃ m, k = m + 1 := ⟨k - 1, by omega⟩
    have : i = fc.length := by omega
    subst this
    simp only [topo_ways.l0]
    rw [if_neg (by omega)]
    rfl
  | succ d ih =>
    intro k i h1 h2 h3
    obtain ⟨k, rfl⟩ : ∃ m, k = m + 1 := ⟨k - 1, by omega⟩
    have hlt : i < fc.length := by omega
    have hw : wrap64 ((i : Int) + 1) = ((i + 1 : Nat) : Int) := by unfold wrap64; omega
    have hm : Int.tmod ((i + 1 : Nat) : Int) (fc.length : Int) = (((i + 1) % fc.length : Nat) : Int) := by
      rw [Int.tmod_eq_emod_of_nonneg (by omega)]
      simp
    have hml : (i + 1) % fc.length < fc.length := Nat.mod_lt _ (by omega)
    simp only [topo_ways.l0]
    rw [hw, hm]
    rw [if_pos (by omega), if_pos (by omega), if_pos (by omega), if_neg (by omega), if_pos (by omega), if_pos (by omega), if_pos (by simp; omega)]
    have e : (List.range i).map (wayAt fc) ++ [(⟨rd fc (i : Int), rd fc (((i + 1) % fc.length : Nat) : Int)⟩ : S115)] = (List.range (i + 1)).map (wayAt fc) := by
      rw [List.range_succ, List.map_append]
      rfl
    rw [e]
    exact ih k (i + 1) (by omega) (by omega) (by omega)
theorem ways_spec (fc : List Int) (hl : fc.length ≤ 1099511627776) : topo_ways.f (fc.length + 1) fc = some (waysS fc) := by
  unfold topo_ways.f
  have := ways_loop fc hl fc.length (fc.length + 1) 0 (by omega) (by omega) (by omega)
  simpa using this
theorem drawn_cell {w w' : World} (h : Drawn0 w w') (a : Addr) : w'.cell? a = w.cell? a := by
  obtain ⟨n, rfl⟩ := h.out
  rfl
theorem drawn_quiet {P : Program} {f : FuncId} {args : Array Value} {W : World} {v : Value} (h : Calls P f args W (fun e w' => e = .returned v ∧ Drawn0 W w')) : Calls P f args W fun e w' => e = .returned v ∧ ∃ m, w' = W.drewN m :=
  h.mono fun _ _ ⟨he, hd⟩ => ⟨he, hd.out⟩
theorem lookN {w : World} {m : Nat} {L : List WF} (h : IsMap w m L) (a b : Int) (r : Option Int) (hr : look L ⟨a, b⟩ = r) (n : Nat) :
    (Instr.lookup 85 (.map (some m)) (.agg #[.int .i64 a, .int .i64 b]) true).run Try.prog (w.drewN n) = .ok (.tuple #[.int .i64 (r.getD 0), .bool r.isSome]) (w.drewN n) := by
  subst hr
  exact run_lookup115 (w := w.drewN n) ⟨h.at_⟩ a b
end Go.Proofs.Ytnjdjfengoaleaa.MSub
namespace Go.Proofs.Ytnjdjfengoaleaa.MSub
open Go.RowKit Go.Proofs.YtnjdjfengoaleaaW.PrintWords Go.Proofs.YtnjdjfengoaleaaW.PrintLast Go.Proofs.YtnjdjfengoaleaaW.PrintMore
set_option linter.unusedVariables false
set_option linter.unusedSimpArgs false
def cornOk (verts : Int) (fc : List Int) (i : Nat) : Bool := decide (0 ≤ rd fc i) && decide (rd fc i < verts) && !decide (rd fc i ∈ fc.take i)
def cornsOk (verts : Int) (fc : List Int) : Bool := (List.range fc.length).all (cornOk verts fc)
def waysOk_ (f : Int) : List WF → List S115 → Bool
  | _, [] => true
  | L, k :: ks => (look L k).isNone && waysOk_ f (L ++ [(k, f)]) ks
def addOk (verts : Int) (L : List WF) (fc : List Int) (f : Int) : Bool := decide (3 ≤ fc.length) && cornsOk verts fc && waysOk_ f L (waysS fc)
theorem ints_take {w : World} {A : Option Addr} {xs : List Int} (h : Kd.C (Kd.int .i64) w A xs.length xs) (i : Nat) (hi : i ≤ xs.length) : Kd.C (Kd.int .i64) w A (xs.take i).length (xs.take i) := by
  refine ⟨rfl, by have := h.2.1; rw [List.length_take]; omega, fun hn => ?_⟩
  rw [List.length_take] at hn
  obtain ⟨ad, e, hc⟩ := h.2.2 (by omega)
  refine ⟨ad, e, fun j p hj => hc j p ?_⟩
  rw [List.getElem?_take] at hj
  split at hj
  · exact hj
  · cases hj
theorem drawn_trans {a b c : World} (h : Drawn0 a b) (k : Drawn0 b c) : Drawn0 a c := by
  obtain ⟨n, rfl⟩ := k.out
  exact h.step n
theorem drawn_grown {w w' : World} (h : Drawn0 w w') {r : Option Nat} : w.grownBy w' r := by
  obtain ⟨n, rfl⟩ := h.out
  exact ⟨rfl, rfl, rfl, Nat.le_refl _, fun _ _ _ => rfl⟩
theorem range_all_false {n i : Nat} {p : Nat → Bool} (hi : i < n) (h : p i = false) : (List.range n).all p = false := by
  rw [List.all_eq_false]
  exact ⟨i, List.mem_range.2 hi, by simp [h]⟩
set_option maxHeartbeats 1000000 in
set_option maxRecDepth 100000 in
theorem add_calls (w : World) (sb m : Nat) (A : Option Addr) (c : Nat) (F : List (List Int)) (L : List WF) (f verts : Int)
    (h0 : w.cell? ⟨sb, 0, none⟩ = some (.slice A F.length c)) (h1 : w.cell? ⟨sb, 1, none⟩ = some (.map (some m))) (hm : IsMap w m L) (hF : Kd.C (Kd.slice 3 (Kd.int .i64)) w A F.length F)
    (hf0 : 0 ≤ f) (hf1 : f < F.length) (hlen : (fcAt F f).length ≤ 1099511627776) :
    Calls Try.prog 39 #[.pointer (some ⟨sb, 0, none⟩), .int .i64 f, .int .i64 verts] w fun e w' =>
      e = .returned (.bool (addOk verts L (fcAt F f) f)) ∧ w.grownBy w' (some m) ∧ (addOk verts L (fcAt F f) f = true → IsMap w' m (L ++ (waysS (fcAt F f)).map (·, f))) := by
  obtain ⟨ad, A0, c0, rfl, hc1, hl0, hC⟩ := at_face hF f hf0 hf1
  generalize hfc : fcAt F f = fc at *
  have HC := Aside0.mk hC
  have HI := Aside0.mk hm
  have HF := Aside0.mk hF
  clear hC hm hF hfc
  by_cases h3 : fc.length < 3
  · have hr : addOk verts L fc f = false := by unfold addOk; rw [decide_eq_false (by omega)]; rfl
    rw [hr]
    clear hr
    go_enter Try.func39, Try.ntmps39
    go_wp2_with fail
    go_ret
    exact ⟨rfl, World.grownBy.refl w _, fun h => by cases h⟩
  · obtain ⟨ar, har⟩ : ∃ ar, addOk verts L fc f = ar := ⟨_, rfl⟩
    rw [har]
    have HAR := Aside0.mk har
    clear har
    have hge : decide ((fc.length : Int) < 3) = false := decide_eq_false (by omega)
    go_enter Try.func39, Try.ntmps39
    go_wp2_with fail
    go_loopw [26] (fun v26 wr => ∃ k : Nat, k ≤ fc.length ∧ v26 = .int .i64 k ∧ Aside0 (∀ i, i < k → cornOk verts fc i = true) ∧ Drawn0 w wr) (fun v26 _ => fc.length - (intOf v26).toNat)
    case atStart => exact ⟨0, Nat.zero_le _, rfl, ⟨fun i hi => by omega⟩, Drawn0.refl _⟩
    case round =>
      obtain ⟨k, hk, rfl, HK, hdr⟩ := hrel
      by_cases hlt : k < fc.length
      · obtain ⟨vk, hvk⟩ : ∃ vk, rd fc k = vk := ⟨_, rfl⟩
        obtain ⟨ad0, e', hcell⟩ := Kd.at_int HC.out k (by omega) (by omega)
        cases e'
        rw [hvk, Int.toNat_natCast] at hcell
        have hcr := (drawn_cell hdr _).trans hcell
        have hco : cornOk verts fc k = (decide (0 ≤ vk) && decide (vk < verts) && !decide (vk ∈ fc.take k)) := by unfold cornOk; rw [hvk]
        have hbad : cornOk verts fc k = false → Aside0 (ar = false) := fun hb => ⟨by
          rw [← HAR.out]
          unfold addOk cornsOk
          rw [range_all_false hlt hb]
          simp⟩
        have hgood : cornOk verts fc k = true → Aside0 (∀ i, i < k + 1 → cornOk verts fc i = true) := fun hb => ⟨fun i hi => by
          rcases Nat.lt_or_ge i k with h | h
          · exact HK.out i h
          · obtain rfl : i = k := by omega
            exact hb⟩
        have hcall := fun W (hW : Drawn0 w W) => slices_Contains_int_int.calls ((fc.take k).length + 1) (some ad0) c0 (fc.take k) vk _ W (Kd.C_below (ints_take HC.out k hk) hW.below) (by rw [List.length_take]; omega) (contains_spec (fc.take k) vk (by rw [List.length_take]; omega))
        have htk : (fc.take k).length = k := by rw [List.length_take]; omega
        rw [htk] at hcall
        have HDR := Aside0.mk hdr
        have HCALL := Aside0.mk hcall
        have HBAD := Aside0.mk hbad
        have HGOOD := Aside0.mk hgood
        have HCO := Aside0.mk hco
        clear hdr hcall hbad hgood hco hvk hcell htk
        by_cases hv0 : vk < 0
        · have hb := HBAD.out (by rw [HCO.out, decide_eq_false (by omega)]; rfl)
          go_wp2_with fail
          go_ret
          exact ⟨by rw [hb.out]; rfl, drawn_grown HDR.out, fun h => by rw [hb.out] at h; cases h⟩
        · by_cases hv1 : vk < verts
          · by_cases hv2 : vk ∈ fc.take k
            · have hb := HBAD.out (by rw [HCO.out, decide_eq_true hv2]; simp)
              have HC2 := Aside0.mk (fun W (hW : Drawn0 w W) => (decide_eq_true hv2) ▸ HCALL.out W hW)
              clear hv2
              go_wp2_with fail
              refine (HC2.out _ HDR.out).mono ?_
              rintro e w' ⟨rfl, hd⟩
              go_wp2_with fail
              go_ret
              exact ⟨by rw [hb.out]; rfl, drawn_grown (drawn_trans HDR.out hd), fun h => by rw [hb.out] at h; cases h⟩
            · have hg := HGOOD.out (by rw [HCO.out, decide_eq_true (by omega : 0 ≤ vk), decide_eq_true hv1, decide_eq_false hv2]; rfl)
              have HC2 := Aside0.mk (fun W (hW : Drawn0 w W) => (decide_eq_false hv2) ▸ HCALL.out W hW)
              clear hv2
              go_wp2_with fail
              refine (HC2.out _ HDR.out).mono ?_
              rintro e w' ⟨rfl, hd⟩
              have HD2 := Aside0.mk hd
              clear hd
              go_wp2_with fail
              go_roundw
              case rel => exact ⟨k + 1, by omega, by go_num, hg, drawn_trans HDR.out HD2.out⟩
              case measure => simp [intOf]; omega
          · have hb := HBAD.out (by rw [HCO.out, decide_eq_false hv1]; simp)
            go_wp2_with fail
            go_ret
            exact ⟨by rw [hb.out]; rfl, drawn_grown HDR.out, fun h => by rw [hb.out] at h; cases h⟩
      · have hkn : k = fc.length := by omega
        subst hkn
        have hcok : cornsOk verts fc = true := by
          unfold cornsOk
          rw [List.all_eq_true]
          intro i hi
          exact HK.out i (List.mem_range.1 hi)
        have har2 : ar = waysOk_ f L (waysS fc) := by
          rw [← HAR.out]
          unfold addOk
          rw [hcok, decide_eq_true (by omega)]
          rfl
        have HAR2 := Aside0.mk har2
        have hcall := topo_ways.calls (fc.length + 1) A0 c0 fc (waysS fc) wr (Kd.C_below HC.out hdr.below) hl0 (ways_spec fc hlen)
        have HCALL := Aside0.mk hcall
        have HDR := Aside0.mk hdr
        clear hcall hdr har2 hcok hlt
        obtain ⟨wo, rfl⟩ : ∃ wo : World, wo = wr := ⟨_, rfl⟩
        go_wp2_with fail
        refine HCALL.out.mono ?_
        rintro e w1 ⟨v0, rfl, hR, hb⟩
        obtain ⟨AW, cW, rfl, hlW, hCW⟩ := Kd.R_reads hR
        have hk1 : CellsKept w w1 := (CellsKept.of_below HDR.out.below).trans (CellsKept.of_below hb)
        have hg1 : w.grownBy w1 (some m) := World.grownBy.trans (drawn_grown HDR.out) (grown_of_below hb _)
        have hi1 := (HI.out.below HDR.out.below).below hb
        have hn : (waysS fc).length = fc.length := waysS_len fc
        rw [hn] at hCW hlW ⊢
        have HCW := Aside0.mk hCW
        have HK1 := Aside0.mk hk1
        have HG1 := Aside0.mk hg1
        have HI1 := Aside0.mk hi1
        have HN := Aside0.mk hn
        clear hR hb hCW hk1 hg1 hi1 HCALL hn
        go_wp2_with fail
        go_loopw [49] (fun v49 wr => ∃ j : Nat, j ≤ fc.length ∧ v49 = .int .i64 j ∧ Aside0 (waysOk_ f L (waysS fc) = waysOk_ f (L ++ ((waysS fc).take j).map (·, f)) ((waysS fc).drop j)) ∧
            Aside0 (IsMap wr m (L ++ ((waysS fc).take j).map (·, f))) ∧ Aside0 (w1.grownBy wr (some m))) (fun v49 _ => fc.length - (intOf v49).toNat)
        case atStart => exact ⟨0, Nat.zero_le _, rfl, ⟨by simp⟩, ⟨by simpa using HI1.out⟩, ⟨World.grownBy.refl w1 _⟩⟩
        case round =>
          obtain ⟨j, hj, rfl, HO, HIr, HGr⟩ := hrel
          by_cases hlt : j < fc.length
          · have hkr : CellsKept w1 wr := CellsKept.of_grown HI1.out HGr.out
            have hCr := ways_kept HCW.out hkr
            obtain ⟨adW, rfl, hw0, hw1⟩ := at_T115 hCr j (by omega) (by omega)
            rw [Int.toNat_natCast] at hw0 hw1
            have h1r := hkr _ _ (HK1.out _ _ h1)
            obtain ⟨kw, hkw⟩ : ∃ kw, rd_T115 (waysS fc) (j : Int) = kw := ⟨_, rfl⟩
            rw [hkw] at hw0 hw1
            have hdrop : (waysS fc).drop j = kw :: (waysS fc).drop (j + 1) := by
              rw [List.drop_eq_getElem_cons (by rw [HN.out]; exact hlt), ← hkw]
              simp [rd_T115, List.getD_eq_getElem?_getD, HN.out, hlt]
            have htake : (waysS fc).take (j + 1) = (waysS fc).take j ++ [kw] := by
              rw [List.take_succ_eq_append_getElem (by rw [HN.out]; exact hlt), ← hkw]
              simp [rd_T115, List.getD_eq_getElem?_getD, HN.out, hlt]
            obtain ⟨LL, hLL⟩ : ∃ LL, L ++ ((waysS fc).take j).map (·, f) = LL := ⟨_, rfl⟩
            have hO := HO.out
            have hIr0 := HIr.out
            rw [hLL] at hO hIr0
            replace HO := Aside0.mk hO
            replace HIr := Aside0.mk hIr0
            have HLL := Aside0.mk hLL
            clear hO hIr0 hLL
            cases hlk : look LL kw with
            | some g =>
              have hbad : Aside0 (ar = false) := ⟨by rw [HAR2.out, HO.out, hdrop]; simp only [waysOk_]; rw [hlk]; rfl⟩
              have hIa : IsMap (wr.alloc (.cells #[.int .i64 kw.f0, .int .i64 kw.f1] 115)) m _ := HIr.out.below (below_alloc (Below.refl _ _) _)
              have hl := lookN hIa kw.f0 kw.f1 (some g) hlk
              have h1a := CellsKept.of_below (below_alloc (Below.refl _ wr) (.cells #[.int .i64 kw.f0, .int .i64 kw.f1] 115)) _ _ h1r
              have hga : Aside0 (w.grownBy (wr.alloc (.cells #[.int .i64 kw.f0, .int .i64 kw.f1] 115)) (some m)) := ⟨World.grownBy.trans (World.grownBy.trans HG1.out HGr.out) (World.grownBy_alloc _ _ _)⟩
              clear hkr hCr hkw hdrop htake hlk hIa
              go_wp2_with fail
              go_quiet (fail)
              go_wp2_with fail
              go_ret
              exact ⟨by rw [hbad.out]; rfl, World.grownBy.trans hga.out (drawn_grown ⟨⟨_, rfl⟩⟩), fun h => by rw [hbad.out] at h; cases h⟩
            | none =>
              have hok2 : Aside0 (waysOk_ f L (waysS fc) = waysOk_ f (L ++ ((waysS fc).take (j + 1)).map (·, f)) ((waysS fc).drop (j + 1))) := ⟨by
                rw [HO.out, hdrop]
                simp only [waysOk_]
                rw [hlk, htake, List.map_append, ← List.append_assoc, HLL.out]
                rfl⟩
              have hIa : IsMap (wr.alloc (.cells #[.int .i64 kw.f0, .int .i64 kw.f1] 115)) m LL := HIr.out.below (below_alloc (Below.refl _ _) _)
              have hl := lookN hIa kw.f0 kw.f1 none hlk
              have h1a := CellsKept.of_below (below_alloc (Below.refl _ wr) (.cells #[.int .i64 kw.f0, .int .i64 kw.f1] 115)) _ _ h1r
              have HTK : Aside0 (L ++ ((waysS fc).take (j + 1)).map (·, f) = LL ++ [(kw, f)]) := ⟨by rw [htake, List.map_append, ← HLL.out, List.append_assoc]; rfl⟩
              have HLK := Aside0.mk hlk
              have HIA := Aside0.mk hIa
              clear hkr hCr hkw hdrop htake hlk hIa
              go_wp2_with fail
              go_quiet (fail)
              clear hl
              go_wp2_with fail
              have hup := fun n => run_update115 (w := (wr.alloc (Obj.cells #[Value.int IntKind.i64 kw.f0, Value.int IntKind.i64 kw.f1] 115)).drewN n) ⟨HIA.out.at_⟩ kw.f0 kw.f1 f HLK.out
              have HL := Aside0.mk HLK
              go_region
              clear hup
              go_wp2_with fail
              go_roundw
              case rel => exact ⟨j + 1, by omega, by go_num, hok2, ⟨by rw [HTK.out]; exact putObj_is (w := (wr.alloc (Obj.cells #[Value.int IntKind.i64 kw.f0, Value.int IntKind.i64 kw.f1] 115)).drewN _) ⟨HIA.out.at_⟩ (kw, f)⟩,
                ⟨World.grownBy.trans HGr.out (World.grownBy.trans (World.grownBy.trans (World.grownBy_alloc wr _ _) (drawn_grown (w' := (wr.alloc (Obj.cells #[Value.int IntKind.i64 kw.f0, Value.int IntKind.i64 kw.f1] 115)).drewN _) ⟨⟨_, rfl⟩⟩)) (putObj_grown _))⟩⟩
              case measure => simp [intOf]; omega
          · have hjn : j = fc.length := by omega
            subst hjn
            have htk : (waysS fc).take fc.length = waysS fc := List.take_of_length_le (by rw [HN.out]; exact Nat.le_refl _)
            have hdk : (waysS fc).drop fc.length = [] := List.drop_of_length_le (by rw [HN.out]; exact Nat.le_refl _)
            have hgood : Aside0 (ar = true) := ⟨by rw [HAR2.out, HO.out, hdk]; rfl⟩
            have hI := HIr.out
            rw [htk] at hI
            have HI3 := Aside0.mk hI
            clear hI htk hdk HO HIr hlt
            go_wp2_with fail
            go_ret
            exact ⟨by rw [hgood.out]; rfl, World.grownBy.trans HG1.out HGr.out, fun _ => HI3.out⟩
end Go.Proofs.Ytnjdjfengoaleaa.MSub
namespace Go.Proofs.Ytnjdjfengoaleaa.Relv
section
variable {α : Type} [DecidableEq α]
theorem len_le_of_nodup_subset : ∀ {l S : List α}, l.Nodup → (∀ x ∈ l, x ∈ S) → l.length ≤ S.length
  | [], _, _, _ => Nat.zero_le _
  | a :: l, S, hn, hs => by
    have ha : a ∈ S := hs a (by simp)
    obtain ⟨h1, h2⟩ := List.nodup_cons.1 hn
    have h3 := len_le_of_nodup_subset (S := S.erase a) h2 (fun x hx => (List.mem_erase_of_ne (fun e : x = a => h1 (by rw [← e]; exact hx))).2 (hs x (by simp [hx])))
    have h4 := List.length_erase_of_mem ha
    have h5 := List.length_pos_of_mem ha
    simp only [List.length_cons]
    omega
theorem perm_of_nodup_subset : ∀ {l S : List α}, l.Nodup → (∀ x ∈ l, x ∈ S) → S.length ≤ l.length → l.Perm S
  | [], S, _, _, hl => by
    have : S = [] := List.eq_nil_of_length_eq_zero (by simpa using hl)
    subst this
    exact .nil
  | a :: l, S, hn, hs, hl => by
    have ha : a ∈ S := hs a (by simp)
    obtain ⟨h1, h2⟩ := List.nodup_cons.1 hn
    have h4 := List.length_erase_of_mem ha
    have h5 := List.length_pos_of_mem ha
    simp only [List.length_cons] at hl
    have h3 := perm_of_nodup_subset (S := S.erase a) h2 (fun x hx => (List.mem_erase_of_ne (fun e : x = a => h1 (by rw [← e]; exact hx))).2 (hs x (by simp [hx]))) (by omega)
    exact (h3.cons a).trans (List.perm_cons_erase ha).symm
end
def walk (s : Int → Option Int) (first : Int) : Nat → Int → List Int
  | 0, cur => [cur]
  | k + 1, cur => match s cur with
    | none => [cur]
    | some f => if f = first then [cur] else cur :: walk s first k f
section
variable {s : Int → Option Int} {first : Int}
theorem walk_mem {S : List Int} (hs : ∀ x ∈ S, ∀ y, s x = some y → y ∈ S) (k : Nat) : ∀ cur, cur ∈ S → ∀ x ∈ walk s first k cur, x ∈ S := by
  induction k with
  | zero => intro cur hc x hx; simp [walk] at hx; exact hx ▸ hc
  | succ k ih =>
    intro cur hc x hx
    unfold walk at hx
    split at hx
    · simp at hx; exact hx ▸ hc
    · rename_i f hf
      split at hx
      · simp at hx; exact hx ▸ hc
      · rcases List.mem_cons.1 hx with rfl | hx
        · exact hc
        · exact ih f (hs _ hc _ hf) x hx
end
def pick (p : Int → Option Int) (l : List Int) (d : Int) : Int × Bool := l.foldl (fun a f => if (p f).isNone then (f, false) else a) (d, true)
section
variable {p : Int → Option Int}
theorem pick_all : ∀ (l : List Int) (d : Int) (b : Bool), (∀ f ∈ l, (p f).isNone = false) → l.foldl (fun a f => if (p f).isNone then (f, false) else a) (d, b) = (d, b)
  | [], _, _, _ => rfl
  | a :: l, d, b, h => by
    rw [List.foldl_cons, if_neg (by rw [h a (by simp)]; simp)]
    exact pick_all l d b (fun f hf => h f (by simp [hf]))
theorem pick_some : ∀ (l : List Int) (d : Int) (b : Bool), (∃ f ∈ l, (p f).isNone = true) → ∃ f ∈ l, (p f).isNone = true ∧ l.foldl (fun a f => if (p f).isNone then (f, false) else a) (d, b) = (f, false)
  | [], _, _, h => by obtain ⟨f, hf, _⟩ := h; cases hf
  | a :: l, d, b, h => by
    rw [List.foldl_cons]
    by_cases hl : ∃ f ∈ l, (p f).isNone = true
    · obtain ⟨f, hf, h1, h2⟩ := pick_some l (if (p a).isNone then (a, false) else (d, b)).1 (if (p a).isNone then (a, false) else (d, b)).2 hl
      exact ⟨f, by simp [hf], h1, h2⟩
    · obtain ⟨f, hf, h1⟩ := h
      rcases List.mem_cons.1 hf with rfl | hf
      · refine ⟨f, by simp, h1, ?_⟩
        rw [if_pos h1]
        exact pick_all l f false (fun g hg => by
          cases hx : (p g).isNone with
          | false => rfl
          | true => exact absurd ⟨g, hg, hx⟩ hl)
      · exact absurd ⟨f, hf, h1⟩ hl
end
def fanL (s p : Int → Option Int) (S : List Int) : List Int := walk s (pick p S (S.headD 0)).1 S.length (pick p S (S.headD 0)).1
def fanOk (s p : Int → Option Int) (S : List Int) : Bool := !S.isEmpty && (fanL s p S).length == S.length
section
variable {s p : Int → Option Int} {S : List Int}
theorem pick_mem (hne : S ≠ []) : (pick p S (S.headD 0)).1 ∈ S := by
  by_cases hl : ∃ f ∈ S, (p f).isNone = true
  · obtain ⟨f, hf, _, h2⟩ := pick_some S (S.headD 0) true hl
    unfold pick; rw [h2]; exact hf
  · have : pick p S (S.headD 0) = (S.headD 0, true) := pick_all S _ true (fun f hf => by
      cases hx : (p f).isNone with
      | false => rfl
      | true => exact absurd ⟨f, hf, hx⟩ hl)
    rw [this]
    cases S with
    | nil => exact absurd rfl hne
    | cons a l => simp
end
end Go.Proofs.Ytnjdjfengoaleaa.Relv
namespace Go.Proofs.Ytnjdjfengoaleaa.MSub
open Go.RowKit Go.Proofs.YtnjdjfengoaleaaW.PrintWords Go.Proofs.YtnjdjfengoaleaaW.PrintLast Go.Proofs.YtnjdjfengoaleaaW.PrintMore
open Go.Proofs.Ytnjdjfengoaleaa.Relv
set_option linter.unusedVariables false
set_option linter.unusedSimpArgs false
def nextF (L : List WF) (F : List (List Int)) (v f : Int) : Option Int := look L ⟨v, bes (fcAt F f) v (-1)⟩
def prevF (L : List WF) (F : List (List Int)) (v f : Int) : Option Int := look L ⟨bes (fcAt F f) v 1, v⟩
structure Mine (L : List WF) (F : List (List Int)) (v : Int) (S : List Int) : Prop where
  len : S.length ≤ 1099511627776
  lo : ∀ f ∈ S, 0 ≤ f
  hi : ∀ f ∈ S, f < F.length
  has : ∀ f ∈ S, v ∈ fcAt F f
  side : ∀ f ∈ S, (fcAt F f).length ≤ 1099511627776
  next : ∀ f ∈ S, ∀ g, nextF L F v f = some g → g ∈ S
theorem lens_ (o : List Int) (cur : Int) (n : Nat) : (((o.length : Int) + 1) == (n : Int)) = ((o ++ [cur]).length == n) := by
  rw [Bool.eq_iff_iff, beq_iff_eq, beq_iff_eq]
  simp
  omega
def lenOf : Value → Nat | .slice _ n _ => n | _ => 0
def pickTo (p : Int → Option Int) (S : List Int) (d : Int) (k : Nat) : Int × Bool := pick p (S.take k) d
theorem pickTo_succ (p : Int → Option Int) (S : List Int) (d : Int) (k : Nat) (h : k < S.length) : pickTo p S d (k + 1) = if (p (rd S k)).isNone then (rd S k, false) else pickTo p S d k := by
  unfold pickTo pick
  rw [List.take_succ_eq_append_getElem h, List.foldl_append]
  simp [rd, List.getD_eq_getElem?_getD, h]
theorem pickTo_all (p : Int → Option Int) (S : List Int) (d : Int) : pickTo p S d S.length = pick p S d := by unfold pickTo; rw [List.take_length]
set_option maxHeartbeats 1000000 in
set_option maxRecDepth 100000 in
theorem fan_calls (w : World) (sb m : Nat) (A B : Option Addr) (c cb : Nat) (F : List (List Int)) (L : List WF) (v : Int) (S : List Int)
    (h0 : w.cell? ⟨sb, 0, none⟩ = some (.slice A F.length c)) (h1 : w.cell? ⟨sb, 1, none⟩ = some (.map (some m))) (hm : IsMap w m L) (hF : Kd.C (Kd.slice 3 (Kd.int .i64)) w A F.length F)
    (hS : Kd.C (Kd.int .i64) w B S.length S) (hM : Mine L F v S) (hne : S ≠ []) :
    Calls Try.prog 41 #[.pointer (some ⟨sb, 0, none⟩), .int .i64 v, .slice B S.length cb] w fun e w' => ∃ v0 : Value,
      e = .returned (.tuple #[v0, .bool (pick (prevF L F v) S (S.headD 0)).2, .bool (fanOk (nextF L F v) (prevF L F v) S)]) ∧ Kd.R (Kd.int .i64) 3 w' w.heap.size (fun _ => True) v0 (fanL (nextF L F v) (prevF L F v) S) ∧ Below w.heap.size w w' := by
  have hp : 0 < S.length := by cases S with | nil => exact absurd rfl hne | cons a l => simp
  have hz : ((S.length : Int) == 0) = false := by rw [beq_eq_false_iff_ne]; omega
  have hlen := hM.len
  have hd0 : S.headD 0 = rd S 0 := by cases S with | nil => rfl | cons a l => rfl
  obtain ⟨adS, rfl, hS0⟩ := Kd.at_int hS 0 (by omega) (by omega)
  replace hS0 : w.cell? adS = some (.int .i64 (rd S 0)) := by simpa [Addr.add] using hS0
  have hpm : (pick (prevF L F v) S (S.headD 0)).1 ∈ S := pick_mem hne
  have hfan : fanL (nextF L F v) (prevF L F v) S = walk (nextF L F v) (pick (prevF L F v) S (S.headD 0)).1 S.length (pick (prevF L F v) S (S.headD 0)).1 := rfl
  have hok : fanOk (nextF L F v) (prevF L F v) S = ((fanL (nextF L F v) (prevF L F v) S).length == S.length) := by
    unfold fanOk
    cases S with
    | nil => exact absurd rfl hne
    | cons a l => simp
  generalize fanOk (nextF L F v) (prevF L F v) S = ok at *
  generalize fanL (nextF L F v) (prevF L F v) S = fl at *
  generalize hd : S.headD 0 = d at *
  have HPM := Aside0.mk hpm
  have HFAN := Aside0.mk hfan
  have HOK := Aside0.mk hok
  clear hpm hfan hok
  have HR := Aside0.mk hS
  have HF := Aside0.mk hF
  have HM := Aside0.mk hM
  have HI := Aside0.mk hm
  have HD := Aside0.mk hd0
  clear hS hF hM hm hd hd0 hne
  go_enter Try.func41, Try.ntmps41
  go_wp2_with fail
  go_loopw [9, 10, 26] (fun v9 v10 v26 wr => ∃ k : Nat, k ≤ S.length ∧ v26 = .int .i64 k ∧ v9 = .int .i64 (pickTo (prevF L F v) S (rd S 0) k).1 ∧ v10 = .bool (pickTo (prevF L F v) S (rd S 0) k).2 ∧ Drawn0 w wr)
    (fun _ _ v26 _ => S.length - (intOf v26).toNat)
  case atStart => exact ⟨0, Nat.zero_le _, rfl, rfl, rfl, Drawn0.refl _⟩
  case round =>
    obtain ⟨k, hk, rfl, rfl, rfl, hdr⟩ := hrel
    by_cases hlt : k < S.length
    · have hps := pickTo_succ (prevF L F v) S (rd S 0) k hlt
      obtain ⟨fk, hfk⟩ : ∃ fk, rd S k = fk := ⟨_, rfl⟩
      rw [hfk] at hps
      have hmem : fk ∈ S := by rw [← hfk]; simp [rd, List.getD_eq_getElem?_getD, hlt]
      obtain ⟨adS', e', hcell⟩ := Kd.at_int HR.out k (by omega) (by omega)
      cases e'
      rw [hfk, Int.toNat_natCast] at hcell
      have h0r := (drawn_cell hdr _).trans h0
      have h1r := (drawn_cell hdr _).trans h1
      have hcr := (drawn_cell hdr _).trans hcell
      have hmr := HI.out.below hdr.below
      have hFr := Kd.C_below HF.out hdr.below
      have hbes := fun n => Calls.quiet_of (drawn_quiet (beside_calls (wr.drewN n) sb A c F fk v 1 h0r (Kd.C_drewN hFr n) (HM.out.lo fk hmem) (HM.out.hi fk hmem) (HM.out.has fk hmem) (HM.out.side fk hmem) (by omega) (by omega)))
      have HB := Aside0.mk hbes
      have HPS := Aside0.mk hps
      have HDR := Aside0.mk hdr
      cases hpr : prevF L F v fk with
      | none =>
        have hl := lookN hmr (bes (fcAt F fk) v 1) v none hpr
        rw [hpr] at hps
        have HPS := Aside0.mk hps
        clear hbes hps hdr hpr hfk hmem hcell hmr hFr h0 h1
        go_wp2_with fail
        go_quiet ((go_at_call 63; exact HB.out _))
        go_wp2
        go_roundw
        case rel => exact ⟨k + 1, by omega, by go_num, by rw [HPS.out]; rfl, by rw [HPS.out]; rfl, HDR.out.step _⟩
        case measure => simp [intOf]; omega
      | some g =>
        have hl := lookN hmr (bes (fcAt F fk) v 1) v (some g) hpr
        rw [hpr] at hps
        have HPS := Aside0.mk hps
        clear hbes hps hdr hpr hfk hmem hcell hmr hFr h0 h1
        go_wp2_with fail
        go_quiet ((go_at_call 63; exact HB.out _))
        go_wp2
        go_roundw
        case rel => exact ⟨k + 1, by omega, by go_num, by rw [HPS.out]; rfl, by rw [HPS.out]; rfl, HDR.out.step _⟩
        case measure => simp [intOf]; omega
    · have hkn : k = S.length := by omega
      subst hkn
      have hpk := pickTo_all (prevF L F v) S (rd S 0)
      rw [hpk]
      rw [← HD.out] at *
      generalize hfr : pick (prevF L F v) S d = fr at *
      have hpm := HPM.out
      have hfan := HFAN.out
      have HPM1 := Aside0.mk hpm
      have HFAN1 := Aside0.mk hfan
      clear hpm hfan HPM HFAN
      have HFR := Aside0.mk hfr
      have HB0 := Aside0.mk hdr.below
      have hsz := hdr.below.size
      have H0 := Aside0.mk h0
      have H1 := Aside0.mk h1
      clear hfr hpk hdr h0 h1 hS0 hlt
      obtain ⟨wo, rfl⟩ : ∃ wo : World, wo = wr := ⟨_, rfl⟩
      go_wp2_with fail
      go_loopw [15] (fun v15 wq => ∃ (o' : List Int) (cur : Int) (r : Nat), Aside0 (o'.length + r = S.length ∧ o' ++ walk (nextF L F v) fr.1 r cur = fl ∧ cur ∈ S) ∧
          Aside0 (Kd.R (Kd.int .i64) 3 wq w.heap.size (fun _ => True) v15 (o' ++ [cur])) ∧ Aside0 (Below w.heap.size w wq))
        (fun v15 _ => S.length + 1 - lenOf v15)
      case atStart =>
        refine ⟨[], fr.1, S.length, ⟨by simp, by rw [HFAN1.out]; rfl, HPM1.out⟩, ⟨?_⟩, ⟨HB0.out.alloc hsz _⟩⟩
        have ho := own_lit wo w.heap.size 3 .i64 [fr.1] hsz (by simp)
        exact Kd.R_of_own ho (fun _ _ => trivial)
      case round =>
        obtain ⟨o', cur, r, HA, HO, HBW⟩ := hrel
        obtain ⟨hlen2, hw2, hcur⟩ := HA.out
        obtain ⟨g, cap, rfl, hg1, hg2, _⟩ := Kd.R_form HO.out (by simp)
        have hcl := (Kd.R_cell (0 : Int) HO.out o'.length (by omega) (by simp; omega)).1
        have hrl : rdOf (0 : Int) (o' ++ [cur]) (o'.length : Int) = cur := by simp [rdOf]
        rw [hrl, Int.toNat_natCast] at hcl
        have h0q := (HBW.out.cell (World.block_lt_of_cell? w _ H0.out)).trans H0.out
        have h1q := (HBW.out.cell (World.block_lt_of_cell? w _ H1.out)).trans H1.out
        have hmq := HI.out.below HBW.out
        have hFq := Kd.C_below HF.out HBW.out
        have hll : (o' ++ [cur]).length = o'.length + 1 := by simp
        have ho2 := HO.out
        rw [hll] at ho2 ⊢
        replace HO := Aside0.mk ho2
        clear hrl hll ho2
        cases r with
        | zero =>
          have hfl : o' ++ [cur] = fl := hw2
          have hgt : S.length < o'.length + 1 := by omega
          have HW := Aside0.mk hfl
          have HL := Aside0.mk hlen2
          clear hw2 hlen2 hcl hmq hFq h0q h1q hfl
          go_wp2_with fail
          go_ret3
          refine ⟨.slice (some ⟨g, 0, none⟩) (o'.length + 1) cap, ?_, HW.out ▸ HO.out, HBW.out⟩
          rw [HFR.out, HOK.out, ← HW.out]
          exact congrArg (fun b : Bool => Ending.returned (.tuple #[.slice (some ⟨g, 0, none⟩) (o'.length + 1) cap, .bool fr.2, .bool b])) (lens_ o' cur S.length)
        | succ r =>
          have hbes := fun n => Calls.quiet_of (drawn_quiet (beside_calls (wr.drewN n) sb A c F cur v (-1) h0q (Kd.C_drewN hFq n) (HM.out.lo cur hcur) (HM.out.hi cur hcur) (HM.out.has cur hcur) (HM.out.side cur hcur) (by omega) (by omega)))
          have HB := Aside0.mk hbes
          have hle : o'.length + 1 ≤ S.length := by omega
          cases hn : nextF L F v cur with
          | none =>
            have hl := lookN hmq v (bes (fcAt F cur) v (-1)) none hn
            have hfl : o' ++ [cur] = fl := by rw [← hw2]; simp [walk, hn]
            have HW := Aside0.mk hfl
            clear hbes hw2 hlen2 hmq hFq hfl hn hcur
            go_wp2_with fail
            go_quiet ((go_at_call 63; exact HB.out _))
            go_wp2_with fail
            go_ret3
            refine ⟨.slice (some ⟨g, 0, none⟩) (o'.length + 1) cap, ?_, Kd.R_drewN (HW.out ▸ HO.out) _, pw_below_drewN HBW.out _⟩
            rw [HFR.out, HOK.out, ← HW.out]
            exact congrArg (fun b : Bool => Ending.returned (.tuple #[.slice (some ⟨g, 0, none⟩) (o'.length + 1) cap, .bool fr.2, .bool b])) (lens_ o' cur S.length)
          | some f =>
            have hl := lookN hmq v (bes (fcAt F cur) v (-1)) (some f) hn
            have hf : f ∈ S := HM.out.next cur hcur f hn
            by_cases hff : f = fr.1
            · have hfl : o' ++ [cur] = fl := by rw [← hw2]; simp [walk, hn, hff]
              have HW := Aside0.mk hfl
              have hq : (f == fr.1) = true := beq_iff_eq.2 hff
              clear hbes hw2 hlen2 hmq hFq hfl hn hcur hff hf
              go_wp2_with fail
              go_quiet ((go_at_call 63; exact HB.out _))
              go_wp2_with fail
              go_ret3
              refine ⟨.slice (some ⟨g, 0, none⟩) (o'.length + 1) cap, ?_, Kd.R_drewN (HW.out ▸ HO.out) _, pw_below_drewN HBW.out _⟩
              rw [HFR.out, HOK.out, ← HW.out]
              exact congrArg (fun b : Bool => Ending.returned (.tuple #[.slice (some ⟨g, 0, none⟩) (o'.length + 1) cap, .bool fr.2, .bool b])) (lens_ o' cur S.length)
            · have hw3 : (o' ++ [cur]) ++ walk (nextF L F v) fr.1 r f = fl := by rw [← hw2]; simp [walk, hn, hff]
              have HA3 : Aside0 ((o' ++ [cur]).length + r = S.length ∧ (o' ++ [cur]) ++ walk (nextF L F v) fr.1 r f = fl ∧ f ∈ S) := ⟨by simp; omega, hw3, hf⟩
              have hq : (f == fr.1) = false := beq_eq_false_iff_ne.2 hff
              clear hbes hw2 hlen2 hmq hFq hw3 hn hcur hff hf
              go_wp2_with fail
              go_quiet ((go_at_call 63; exact HB.out _))
              go_wp2_with (first | (at_builtin; refine Kd.R_append (Kd.int .i64) (w0 := w) w.heap.size rfl (.tmp 81) (.tmp 83) 29 3 (.int .i64 0) 8 rfl Try.underlying29 info3 rfl (by decide) (by omega) _ (o' ++ [cur]) f [.int .i64 f] (fun _ => True) (fun _ => False) rfl rfl ?aP (fun _ hk => hk.elim) ?aF ?aO ?aB ?aS ?aL ?_))
              case aP => exact rfl
              case aF => exact fun _ _ => trivial
              case aO => exact Kd.R_drewN HO.out _
              case aB => exact pw_below_drewN HBW.out _
              case aS => have h1 := HBW.out.size; simp; omega
              case aL => simp; omega
              intro v1 w1 hr1 hb1 hg1 hat1
              have hsh : lenOf v1 = o'.length + 2 := by
                obtain ⟨A', c', rfl⟩ := Kd.R_slice hr1
                simp [lenOf]
              have H1' := Aside0.mk hr1
              have H2' := Aside0.mk hb1
              have HS := Aside0.mk hsh
              clear hr1 hb1 hg1 hat1 hsh
              go_wp2
              go_roundw
              case rel => exact ⟨o' ++ [cur], f, r, HA3, ⟨by have := H1'.out; simpa using this⟩, H2'⟩
              case measure => rw [HS.out]; simp [lenOf]; omega
end Go.Proofs.Ytnjdjfengoaleaa.MSub
namespace Go.Proofs.Ytnjdjfengoaleaa.MSub
open Go.RowKit Go.Proofs.YtnjdjfengoaleaaW.PrintWords Go.Proofs.YtnjdjfengoaleaaW.PrintLast Go.Proofs.YtnjdjfengoaleaaW.PrintMore
set_option linter.unusedVariables false
set_option linter.unusedSimpArgs false
def faceOf (L : List WF) (a b : Int) : Int := (look L ⟨a, b⟩).getD (-1)
set_option maxHeartbeats 1000000 in
set_option maxRecDepth 100000 in
theorem face_calls (w : World) (cb sb m : Nat) (L : List WF) (a b : Int) (h : w.cell? ⟨cb, 0, none⟩ = some (.pointer (some ⟨sb, 0, none⟩))) (h1 : w.cell? ⟨sb, 1, none⟩ = some (.map (some m))) (hm : IsMap w m L) :
    Calls Try.prog 58 #[.agg #[.int .i64 a, .int .i64 b], .pointer (some ⟨cb, 0, none⟩)] w fun e w' => e = .returned (.int .i64 (faceOf L a b)) ∧ Below w.heap.size w w' := by
  have hka := CellsKept.of_below (below_alloc (Below.refl _ w) (.cells #[.int .i64 a, .int .i64 b] 115))
  have ha := hka _ _ h
  have h1a := hka _ _ h1
  have hma : IsMap (w.alloc (.cells #[.int .i64 a, .int .i64 b] 115)) m L := hm.below (below_alloc (Below.refl _ w) _)
  have hb0 := Aside0.mk (below_alloc (Below.refl _ w) (.cells #[.int .i64 a, .int .i64 b] 115))
  clear hka hm h h1
  cases hlk : look L ⟨a, b⟩ with
  | some g =>
    have hl := lookN hma a b (some g) hlk
    have hf : Aside0 (faceOf L a b = g) := ⟨by unfold faceOf; rw [hlk]; rfl⟩
    clear hma hlk
    go_enter Try.func58, Try.ntmps58
    go_wp2_with fail
    go_quiet (fail)
    go_wp2_with fail
    go_ret
    exact ⟨by rw [hf.out]; rfl, pw_below_drewN hb0.out _⟩
  | none =>
    have hl := lookN hma a b none hlk
    have hf : Aside0 (faceOf L a b = -1) := ⟨by unfold faceOf; rw [hlk]; rfl⟩
    clear hma hlk
    go_enter Try.func58, Try.ntmps58
    go_wp2_with fail
    go_quiet (fail)
    go_wp2_with fail
    go_ret
    exact ⟨by rw [hf.out]; rfl, pw_below_drewN hb0.out _⟩
end Go.Proofs.Ytnjdjfengoaleaa.MSub
namespace Go.Proofs.Ytnjdjfengoaleaa.MSub
open Go.RowKit Go.Proofs.YtnjdjfengoaleaaW.PrintWords Go.Proofs.YtnjdjfengoaleaaW.PrintLast Go.Proofs.YtnjdjfengoaleaaW.PrintMore
set_option linter.unusedVariables false
set_option linter.unusedSimpArgs false
structure IsIter (w : World) (r m : Nat) (L : List WF) (seen : List Nat) : Prop where
  at_ : w.heap[r]? = some (.mapIter (some m) L.length seen.toArray L.length)
theorem IsIter.lt {w : World} {r m : Nat} {L : List WF} {seen : List Nat} (h : IsIter w r m L seen) : r < w.heap.size := (Array.getElem?_eq_some_iff.1 h.at_).1
theorem entsFrom_mem : ∀ (L : List WF) (n : Nat) (e : MapEntry), e ∈ entsFrom n L → ∃ i p, L[i]? = some p ∧ e = ent (n + i) p
  | [], _, _, h => by cases h
  | q :: L, n, e, h => by
    rcases List.mem_cons.1 h with rfl | h
    · exact ⟨0, q, rfl, rfl⟩
    · obtain ⟨i, p, h1, h2⟩ := entsFrom_mem L (n + 1) e h
      exact ⟨i + 1, p, by simpa using h1, by rw [h2, show n + 1 + i = n + (i + 1) from by omega]⟩
theorem ents_mem {L : List WF} {e : MapEntry} (h : e ∈ ents L) : ∃ i p, L[i]? = some p ∧ e = ent i p := by
  obtain ⟨i, p, h1, h2⟩ := entsFrom_mem L 0 e (by simpa [ents] using h)
  exact ⟨i, p, h1, by simpa using h2⟩
theorem ents_of {L : List WF} {i : Nat} {p : WF} (h : L[i]? = some p) : ent i p ∈ ents L := by
  have := entsFrom_get L 0 i p h
  simp only [Nat.zero_add] at this
  simpa [ents] using List.mem_of_getElem? this
theorem born_lt {L : List WF} {e : MapEntry} (h : e ∈ ents L) : e.born < L.length := by
  obtain ⟨i, p, h1, rfl⟩ := ents_mem h
  exact (List.getElem?_eq_some_iff.1 h1).1
theorem run_next_parts {P : Program} {w : World} {r m : Nat} {L : List WF} {seen : List Nat} (T : TypeId) (hm : IsMap w m L) (hi : IsIter w r m L seen) (left : Array MapEntry) (hl : left = (ents L).filter fun e => !seen.toArray.contains e.born) :
    (Instr.next (.pointer (some ⟨r, 0, none⟩)) false T).run P w =
      (do
        let candidates : Array (Option MapEntry) := (if left.isEmpty then #[none] else #[]) ++ left.map some
        match candidates[← choose (.mapNext candidates.size)]? with
        | some (some e) =>
          setObj r (.mapIter (some m) L.length (seen.toArray.push e.born) L.length)
          pure (.tuple #[.bool true, e.key, e.val])
        | some none => pure (.tuple #[.bool false])
        | none => stuck "Next: no such candidate" : Sem Value).run P w := by
  have h1 : (!seen.toArray.isEmpty && !(ents L).isEmpty && (ents L).all fun e => decide (e.born ≥ L.length)) = false := by
    cases L with
    | nil => simp [ents, entsFrom]
    | cons p L =>
      have : ((ents (p :: L)).all fun e => decide (e.born ≥ (p :: L).length)) = false := by
        rw [Array.all_eq_false']
        exact ⟨ent 0 p, ents_of (by simp), by simp [ent]⟩
      rw [this]
      simp
  have h2 : left.filter (fun e => decide (e.born < L.length)) = left := by
    rw [Array.filter_eq_self]
    intro e he
    rw [hl] at he
    simpa using born_lt (Array.mem_filter.1 he).1
  have h3 : left.filter (fun e => decide (e.born ≥ L.length)) = #[] := by
    rw [Array.filter_eq_empty_iff]
    intro e he
    rw [hl] at he
    have := born_lt (Array.mem_filter.1 he).1
    simp
    omega
  have hgi : (getObj r).run P w = .ok (.mapIter (some m) L.length seen.toArray L.length) w := by simp [getObj, Sem.run, hi.at_]
  unfold Instr.next
  simp only [Sem.run_bind, Sem.run_pure, hgi, MapKept.run_getObj_map hm.at_, Result.andThen_ok, h1, ← hl, h2, h3, Bool.false_eq_true, if_false, Array.append_empty]
  rfl
theorem next_over {P : Program} {w : World} {r m : Nat} {L : List WF} {seen : List Nat} (T : TypeId) (hm : IsMap w m L) (hi : IsIter w r m L seen) (hall : ∀ i, i < L.length → i ∈ seen) :
    (Instr.next (.pointer (some ⟨r, 0, none⟩)) false T).run P w = .ok (.tuple #[.bool false]) w := by
  have he : (#[] : Array MapEntry) = (ents L).filter fun e => !seen.toArray.contains e.born := by
    rw [eq_comm, Array.filter_eq_empty_iff]
    intro e he
    have := hall _ (born_lt he)
    simpa using this
  rw [run_next_parts T hm hi #[] he]
  simp [choose, Sem.run, Question.forced, Result.andThen]
theorem next_some {P : Program} {w : World} {r m : Nat} {L : List WF} {seen : List Nat} (T : TypeId) (hm : IsMap w m L) (hi : IsIter w r m L seen) (hex : ∃ i, i < L.length ∧ i ∉ seen) :
    ∃ i p w', i ∉ seen ∧ L[i]? = some p ∧ (Instr.next (.pointer (some ⟨r, 0, none⟩)) false T).run P w = .ok (.tuple #[.bool true, keyV p.1, .int .i64 p.2]) w' ∧
      w'.os = w.os ∧ w'.tape = w.tape ∧ w'.output = w.output ∧ w'.heap = w.heap.setIfInBounds r (.mapIter (some m) L.length (seen ++ [i]).toArray L.length) := by
  obtain ⟨left, hleft⟩ : ∃ left, left = (ents L).filter fun e => !seen.toArray.contains e.born := ⟨_, rfl⟩
  have hne : left.isEmpty = false := by
    obtain ⟨i, hi1, hi2⟩ := hex
    have hmem : ent i L[i] ∈ left := by
      rw [hleft, Array.mem_filter]
      exact ⟨ents_of (List.getElem?_eq_getElem hi1), by simpa [ent] using hi2⟩
    cases h : left.isEmpty with
    | false => rfl
    | true =>
      have : left = #[] := by simpa using h
      rw [this] at hmem
      simp at hmem
  have hpos : 0 < left.size := by
    rcases Nat.eq_zero_or_pos left.size with h | h
    · have : left = #[] := Array.eq_empty_of_size_eq_zero h
      rw [this] at hne
      simp at hne
    · exact h
  have hsize : (left.map some).size = left.size := by simp
  have hsi : ∀ (W : World) (o : Obj), W.heap = w.heap → (setObj r o).run P W = .ok () { W with heap := W.heap.setIfInBounds r o } := fun W o h => by
    simp [setObj, Sem.run, h, hi.at_]
  have fin : ∀ c, c < left.size → ∃ i p, i ∉ seen ∧ L[i]? = some p ∧ (left.map some)[c]? = some (some (ent i p)) := by
    intro c hc
    obtain ⟨e, he⟩ : ∃ e, left[c]? = some e := ⟨left[c], Array.getElem?_eq_getElem hc⟩
    have hmem : e ∈ left := Array.mem_of_getElem? he
    rw [hleft, Array.mem_filter] at hmem
    obtain ⟨i, p, h1, h2⟩ := ents_mem hmem.1
    refine ⟨i, p, ?_, h1, ?_⟩
    · have := hmem.2
      rw [h2] at this
      simpa [ent] using this
    · rw [Array.getElem?_map, he, h2]
      rfl
  rw [run_next_parts T hm hi left hleft]
  simp only [hne, Bool.false_eq_true, if_false, Array.empty_append]
  by_cases hf : (Question.mapNext (left.map some).size).forced = true
  · obtain ⟨i, p, h1, h2, h3⟩ := fin 0 hpos
    refine ⟨i, p, { w with heap := w.heap.setIfInBounds r (.mapIter (some m) L.length (seen ++ [i]).toArray L.length) }, h1, h2, ?_, rfl, rfl, rfl, rfl⟩
    have hpush : seen.toArray.push i = (seen ++ [i]).toArray := by simp
    simp only [choose, Sem.run_bind, Sem.run, hf, if_true, Result.andThen_ok, h3, hsi w _ rfl, Sem.run_pure, ent, hpush]
  · obtain ⟨i, p, h1, h2, h3⟩ := fin ((Question.mapNext (left.map some).size).cut (w.tape w.drawn (Question.mapNext (left.map some).size))) (by
      simp only [Question.cut, hsize]
      exact Nat.mod_lt _ hpos)
    refine ⟨i, p, { w with heap := w.heap.setIfInBounds r (.mapIter (some m) L.length (seen ++ [i]).toArray L.length), drawn := w.drawn + 1 }, h1, h2, ?_, rfl, rfl, rfl, rfl⟩
    have hpush : seen.toArray.push i = (seen ++ [i]).toArray := by simp
    have hf' : (Question.mapNext (left.map some).size).forced = false := by simpa using hf
    simp only [choose, Sem.run_bind, Sem.run, hf', Bool.false_eq_true, if_false, Result.andThen_ok, h3, hsi { w with drawn := w.drawn + 1 } _ rfl, Sem.run_pure, ent, hpush]
theorem entry_at {P : Program} {w : World} {r m i : Nat} {L : List WF} {seen : List Nat} {p : WF} (hm : IsMap w m L) (hi : IsIter w r m L (seen ++ [i])) (hp : L[i]? = some p) :
    (Instr.entry (.pointer (some ⟨r, 0, none⟩))).run P w = .ok (.tuple #[keyV p.1, .int .i64 p.2]) w := by
  have hgi : (getObj r).run P w = .ok (.mapIter (some m) L.length (seen ++ [i]).toArray L.length) w := by simp [getObj, Sem.run, hi.at_]
  have hb : (seen ++ [i]).toArray.back? = some i := by simp
  have hfind : (ents L).find? (fun e => e.born == i) = some (ent i p) := by
    have key : ∀ (L : List WF) (n i : Nat) (p : WF), L[i]? = some p → (entsFrom n L).find? (fun e => e.born == n + i) = some (ent (n + i) p) := by
      intro L
      induction L with
      | nil => intro n i p h; simp at h
      | cons q L ih =>
        intro n i p h
        cases i with
        | zero => simp at h; subst h; simp [entsFrom, ent]
        | succ i =>
          have := ih (n + 1) i p (by simpa using h)
          simp only [entsFrom]
          rw [List.find?_cons_of_neg (by simp [ent])]
          rw [show n + (i + 1) = n + 1 + i from by omega]
          exact this
    have := key L 0 i p hp
    simp only [Nat.zero_add] at this
    simpa [ents] using this
  unfold Instr.entry
  simp only [Sem.run_bind, Sem.run_pure, hgi, Result.andThen_ok, hb, MapKept.run_getObj_map hm.at_, bne_self_eq_false, Bool.false_eq_true, if_false, hfind]
  rfl
theorem range_at {w : World} {m : Nat} {L : List WF} (hm : IsMap w m L) :
    (Instr.range 85 (.map (some m))).run Try.prog w = .ok (.pointer (some ⟨w.heap.size, 0, none⟩)) (w.alloc (.mapIter (some m) L.length #[] L.length)) := by
  unfold Instr.range
  simp [run_underlying Try.underlying85, MapKept.run_getObj_map hm.at_, Result.andThen]
end Go.Proofs.Ytnjdjfengoaleaa.MSub
